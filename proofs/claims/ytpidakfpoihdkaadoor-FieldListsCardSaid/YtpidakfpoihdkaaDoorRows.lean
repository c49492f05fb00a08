/-
  NARROWER THAN 'FOR EVERY INPUT', by the rows' own cells (each row's printed sentence says how): FieldLines: laid · FieldWords: laid · FieldBlanks: laid · FieldJoins: laid · FieldLists: laid.
  DERIVED. THE GIVEN ROWS OF THIS SEAT. 5 by the template 'for every input the law returns true; each argument reads behind the call as it read before'; 0 by the template 'total and deterministic' (their statements: YtpidakfpoihdkaaDoorTotals.lean).
  GIVEN WITH THE SEED: the statements are not yours to turn. If you find one false, say at which input.
  Laid BY PROGRAM, IN A SANDBOX (cutbox-rows.mjs): the forced cells as the released guide's own fill.sh prints them over the translation 4c50036d3aa6570a… (all of the seat's roots in one cut). By AI agents, Wed Nov 11 2026. No macro, syntax, notation, axiom, sorry.
-/
import Derived.Test.YtpidakfpoihdkaaDoorChecked
import GoSem.PinnedTables
import GoSem.Claim
import GoSem.ClaimJoined
import GoSem.ClaimMapViews
import Derived.JoinedTies
import Derived.KernelRfl
namespace Go.Proofs.YtpidakfpoihdkaaDoor
/- THE CELL 'sum', in the pinned program and in every row, IS THE sha256 OF THE DUMP (.gsa) THAT YtpidakfpoihdkaaDoorProg.lean LOADS. Nothing in Lean hashes anything: it is a label: what it is worth is what the hold of that sum in a sandbox is worth. -/
noncomputable def Tryd.pinned : Pinned := { name := "ytpidakfpoihdkaadoor", sum := "4c50036d3aa6570a8ee8d81db55346616f09e167dba5653ac4a1c547f702bea7", checked := Tryd.checked }
namespace Rows
def none {H : Type} : Left H := { results := [], args := [] }

/- WHAT THE LISTED PACKAGE-LEVEL VARIABLES READ AS WHEN THE CALL BEGINS. Each datum BY PROGRAM (the guide's laid-datum.mjs) off the statement by which the dump's own 'gosem.cut.vars' lays the variable. In a bare row this is a premise. The card (YtpidakfpoihdkaaDoorCards.lean) ties it to the program's text. -/
def laid_unicode_utf8_acceptRanges {H : Type} : DataW H := .agg [.agg [.lit (.int .u8 128), .lit (.int .u8 191)], .agg [.lit (.int .u8 160), .lit (.int .u8 191)], .agg [.lit (.int .u8 128), .lit (.int .u8 159)], .agg [.lit (.int .u8 144), .lit (.int .u8 191)], .agg [.lit (.int .u8 128), .lit (.int .u8 143)], .agg [.lit (.int .u8 0), .lit (.int .u8 0)], .agg [.lit (.int .u8 0), .lit (.int .u8 0)], .agg [.lit (.int .u8 0), .lit (.int .u8 0)], .agg [.lit (.int .u8 0), .lit (.int .u8 0)], .agg [.lit (.int .u8 0), .lit (.int .u8 0)], .agg [.lit (.int .u8 0), .lit (.int .u8 0)], .agg [.lit (.int .u8 0), .lit (.int .u8 0)], .agg [.lit (.int .u8 0), .lit (.int .u8 0)], .agg [.lit (.int .u8 0), .lit (.int .u8 0)], .agg [.lit (.int .u8 0), .lit (.int .u8 0)], .agg [.lit (.int .u8 0), .lit (.int .u8 0)]]
/-- One of Go's own tables, pinned by name: the form's constant. -/
def laid_unicode_utf8_first : DataW Unit := Go.Pinned.utf8First

/-- 'cofferlaw22.FieldLines': WHATEVER THE INPUT: true; the input reads as it did. -/
def fieldLinesSpec : ChangeSpec := { name := "fieldLines", fn := fun _ => fun
  | [d] => { results := [.lit (.bool true)], args := [d] }
  | _ => none }
def fieldLinesRow : OpenClaim := { program := "ytpidakfpoihdkaadoor", sum := "4c50036d3aa6570a8ee8d81db55346616f09e167dba5653ac4a1c547f702bea7", func := "coffer/cofferlaw22.FieldLines", spec := "fieldLines", inPlace := ["internal/bytealg.IndexByteString", "internal/bytealg.IndexString", "internal/bytealg.CountString"], named := ["internal/bytealg.MaxLen", "unicode/utf8.first", "unicode/utf8.acceptRanges"], apart := false, laid := [("unicode/utf8.acceptRanges", laid_unicode_utf8_acceptRanges), ("unicode/utf8.first", laid_unicode_utf8_first)] }
def FieldLinesSaid : Prop := fieldLinesRow.holds Tryd.pinned (OpenSpec.ofChange fieldLinesSpec)

/-- ITS FALSE NEIGHBOUR: 'it returns false'. Refute it at one input. -/
def fieldLinesWrong : ChangeSpec := { name := "fieldLines", fn := fun _ => fun
  | [d] => { results := [.lit (.bool false)], args := [d] }
  | _ => none }
def FieldLinesWrongFalsely : Prop := fieldLinesRow.holds Tryd.pinned (OpenSpec.ofChange fieldLinesWrong)

/-- 'cofferlaw22.FieldWords': WHATEVER THE INPUT: true; the input reads as it did. -/
def fieldWordsSpec : ChangeSpec := { name := "fieldWords", fn := fun _ => fun
  | [d] => { results := [.lit (.bool true)], args := [d] }
  | _ => none }
def fieldWordsRow : OpenClaim := { program := "ytpidakfpoihdkaadoor", sum := "4c50036d3aa6570a8ee8d81db55346616f09e167dba5653ac4a1c547f702bea7", func := "coffer/cofferlaw22.FieldWords", spec := "fieldWords", inPlace := ["internal/bytealg.IndexByteString", "internal/bytealg.IndexString", "internal/bytealg.CountString"], named := ["internal/bytealg.MaxLen", "unicode/utf8.first", "unicode/utf8.acceptRanges"], apart := false, laid := [("unicode/utf8.acceptRanges", laid_unicode_utf8_acceptRanges), ("unicode/utf8.first", laid_unicode_utf8_first)] }
def FieldWordsSaid : Prop := fieldWordsRow.holds Tryd.pinned (OpenSpec.ofChange fieldWordsSpec)

/-- ITS FALSE NEIGHBOUR: 'it returns false'. Refute it at one input. -/
def fieldWordsWrong : ChangeSpec := { name := "fieldWords", fn := fun _ => fun
  | [d] => { results := [.lit (.bool false)], args := [d] }
  | _ => none }
def FieldWordsWrongFalsely : Prop := fieldWordsRow.holds Tryd.pinned (OpenSpec.ofChange fieldWordsWrong)

/-- 'cofferlaw22.FieldBlanks': WHATEVER THE INPUT: true; the input reads as it did. -/
def fieldBlanksSpec : ChangeSpec := { name := "fieldBlanks", fn := fun _ => fun
  | [d1, d2, d3, d4, d5] => { results := [.lit (.bool true)], args := [d1, d2, d3, d4, d5] }
  | _ => none }
def fieldBlanksRow : OpenClaim := { program := "ytpidakfpoihdkaadoor", sum := "4c50036d3aa6570a8ee8d81db55346616f09e167dba5653ac4a1c547f702bea7", func := "coffer/cofferlaw22.FieldBlanks", spec := "fieldBlanks", inPlace := ["internal/bytealg.IndexByteString", "internal/bytealg.IndexString", "internal/bytealg.CountString"], named := ["internal/bytealg.MaxLen", "unicode/utf8.first", "unicode/utf8.acceptRanges"], apart := false, laid := [("unicode/utf8.acceptRanges", laid_unicode_utf8_acceptRanges), ("unicode/utf8.first", laid_unicode_utf8_first)] }
def FieldBlanksSaid : Prop := fieldBlanksRow.holds Tryd.pinned (OpenSpec.ofChange fieldBlanksSpec)

/-- ITS FALSE NEIGHBOUR: 'it returns false'. Refute it at one input. -/
def fieldBlanksWrong : ChangeSpec := { name := "fieldBlanks", fn := fun _ => fun
  | [d1, d2, d3, d4, d5] => { results := [.lit (.bool false)], args := [d1, d2, d3, d4, d5] }
  | _ => none }
def FieldBlanksWrongFalsely : Prop := fieldBlanksRow.holds Tryd.pinned (OpenSpec.ofChange fieldBlanksWrong)

/-- 'cofferlaw22.FieldJoins': WHATEVER THE INPUT: true; the input reads as it did. -/
def fieldJoinsSpec : ChangeSpec := { name := "fieldJoins", fn := fun _ => fun
  | [d1, d2] => { results := [.lit (.bool true)], args := [d1, d2] }
  | _ => none }
def fieldJoinsRow : OpenClaim := { program := "ytpidakfpoihdkaadoor", sum := "4c50036d3aa6570a8ee8d81db55346616f09e167dba5653ac4a1c547f702bea7", func := "coffer/cofferlaw22.FieldJoins", spec := "fieldJoins", inPlace := ["internal/bytealg.IndexByteString", "internal/bytealg.IndexString", "internal/bytealg.CountString"], named := ["internal/bytealg.MaxLen", "unicode/utf8.first", "unicode/utf8.acceptRanges"], apart := false, laid := [("unicode/utf8.acceptRanges", laid_unicode_utf8_acceptRanges), ("unicode/utf8.first", laid_unicode_utf8_first)] }
def FieldJoinsSaid : Prop := fieldJoinsRow.holds Tryd.pinned (OpenSpec.ofChange fieldJoinsSpec)

/-- ITS FALSE NEIGHBOUR: 'it returns false'. Refute it at one input. -/
def fieldJoinsWrong : ChangeSpec := { name := "fieldJoins", fn := fun _ => fun
  | [d1, d2] => { results := [.lit (.bool false)], args := [d1, d2] }
  | _ => none }
def FieldJoinsWrongFalsely : Prop := fieldJoinsRow.holds Tryd.pinned (OpenSpec.ofChange fieldJoinsWrong)

/-- 'cofferlaw22.FieldLists': WHATEVER THE INPUT: true; the input reads as it did. -/
def fieldListsSpec : ChangeSpec := { name := "fieldLists", fn := fun _ => fun
  | [d1, d2] => { results := [.lit (.bool true)], args := [d1, d2] }
  | _ => none }
def fieldListsRow : OpenClaim := { program := "ytpidakfpoihdkaadoor", sum := "4c50036d3aa6570a8ee8d81db55346616f09e167dba5653ac4a1c547f702bea7", func := "coffer/cofferlaw22.FieldLists", spec := "fieldLists", inPlace := ["internal/bytealg.IndexByteString", "internal/bytealg.IndexString", "internal/bytealg.CountString"], named := ["internal/bytealg.MaxLen", "unicode/utf8.first", "unicode/utf8.acceptRanges"], apart := false, laid := [("unicode/utf8.acceptRanges", laid_unicode_utf8_acceptRanges), ("unicode/utf8.first", laid_unicode_utf8_first)] }
def FieldListsSaid : Prop := fieldListsRow.holds Tryd.pinned (OpenSpec.ofChange fieldListsSpec)

/-- ITS FALSE NEIGHBOUR: 'it returns false'. Refute it at one input. -/
def fieldListsWrong : ChangeSpec := { name := "fieldLists", fn := fun _ => fun
  | [d1, d2] => { results := [.lit (.bool false)], args := [d1, d2] }
  | _ => none }
def FieldListsWrongFalsely : Prop := fieldListsRow.holds Tryd.pinned (OpenSpec.ofChange fieldListsWrong)

/- THE SECOND FORM. 'bulk': how many values and letters a reading holds, each counted each time it is reached (what is shared counts as often as it is met; a slice's spare places count too). A statement '..UptoSaid' is the law's where the arguments, and the package variables that the reading takes, are together of bulk at most 1048576: NARROWER than '..Said'. Prove '..Said' where nothing that the law and all that it calls make is longer than what came in: it says more and counts as full. Else prove '..UptoSaid'. A law counts once. -/
mutual
def uptoBulk {H : Type} : DataW H → Nat
  | .lit (.string bytes) => bytes.length + 1
  | .lit _ => 1
  | .nil => 1
  | .ptr d => uptoBulk d + 1
  | .slice elems spare => uptoBulkAll elems + uptoBulkAll spare + 1
  | .agg parts => uptoBulkAll parts + 1
  | .iface _ d => uptoBulk d + 1
  | .map entries => uptoBulkEntries entries + 1
  | .held _ => 1
def uptoBulkAll {H : Type} : List (DataW H) → Nat
  | [] => 0
  | d :: r => uptoBulk d + uptoBulkAll r
def uptoBulkEntries {H : Type} : List (Lit × DataW H) → Nat
  | [] => 0
  | x :: r => uptoBulkEntry x + uptoBulkEntries r
def uptoBulkEntry {H : Type} : Lit × DataW H → Nat
  | (.string bytes, d) => bytes.length + uptoBulk d + 1
  | (_, d) => uptoBulk d + 1
 end
def uptoSmall : (H : Type) → List (DataW H) → Bool := fun _ ds => decide (uptoBulkAll ds ≤ 1048576)
def OpenSpec.upto (s : _root_.Go.ChangeSpec) : _root_.Go.OpenSpec := { _root_.Go.OpenSpec.ofChange s with cond := some uptoSmall }

/-- 'cofferlaw22.FieldLines', WHERE WHAT IT READS IS OF BULK AT MOST 1048576: true; the input reads as it did. -/
def fieldLinesUptoRow : OpenClaim := { program := "ytpidakfpoihdkaadoor", sum := "4c50036d3aa6570a8ee8d81db55346616f09e167dba5653ac4a1c547f702bea7", func := "coffer/cofferlaw22.FieldLines", spec := "fieldLines", inPlace := ["internal/bytealg.IndexByteString", "internal/bytealg.IndexString", "internal/bytealg.CountString"], named := ["internal/bytealg.MaxLen", "unicode/utf8.first", "unicode/utf8.acceptRanges"], apart := false, laid := [("unicode/utf8.acceptRanges", laid_unicode_utf8_acceptRanges), ("unicode/utf8.first", laid_unicode_utf8_first)], narrowed := true }
def FieldLinesUptoSaid : Prop := fieldLinesUptoRow.holds Tryd.pinned (OpenSpec.upto fieldLinesSpec)

/-- 'cofferlaw22.FieldWords', WHERE WHAT IT READS IS OF BULK AT MOST 1048576: true; the input reads as it did. -/
def fieldWordsUptoRow : OpenClaim := { program := "ytpidakfpoihdkaadoor", sum := "4c50036d3aa6570a8ee8d81db55346616f09e167dba5653ac4a1c547f702bea7", func := "coffer/cofferlaw22.FieldWords", spec := "fieldWords", inPlace := ["internal/bytealg.IndexByteString", "internal/bytealg.IndexString", "internal/bytealg.CountString"], named := ["internal/bytealg.MaxLen", "unicode/utf8.first", "unicode/utf8.acceptRanges"], apart := false, laid := [("unicode/utf8.acceptRanges", laid_unicode_utf8_acceptRanges), ("unicode/utf8.first", laid_unicode_utf8_first)], narrowed := true }
def FieldWordsUptoSaid : Prop := fieldWordsUptoRow.holds Tryd.pinned (OpenSpec.upto fieldWordsSpec)

/-- 'cofferlaw22.FieldBlanks', WHERE WHAT IT READS IS OF BULK AT MOST 1048576: true; the input reads as it did. -/
def fieldBlanksUptoRow : OpenClaim := { program := "ytpidakfpoihdkaadoor", sum := "4c50036d3aa6570a8ee8d81db55346616f09e167dba5653ac4a1c547f702bea7", func := "coffer/cofferlaw22.FieldBlanks", spec := "fieldBlanks", inPlace := ["internal/bytealg.IndexByteString", "internal/bytealg.IndexString", "internal/bytealg.CountString"], named := ["internal/bytealg.MaxLen", "unicode/utf8.first", "unicode/utf8.acceptRanges"], apart := false, laid := [("unicode/utf8.acceptRanges", laid_unicode_utf8_acceptRanges), ("unicode/utf8.first", laid_unicode_utf8_first)], narrowed := true }
def FieldBlanksUptoSaid : Prop := fieldBlanksUptoRow.holds Tryd.pinned (OpenSpec.upto fieldBlanksSpec)

/-- 'cofferlaw22.FieldJoins', WHERE WHAT IT READS IS OF BULK AT MOST 1048576: true; the input reads as it did. -/
def fieldJoinsUptoRow : OpenClaim := { program := "ytpidakfpoihdkaadoor", sum := "4c50036d3aa6570a8ee8d81db55346616f09e167dba5653ac4a1c547f702bea7", func := "coffer/cofferlaw22.FieldJoins", spec := "fieldJoins", inPlace := ["internal/bytealg.IndexByteString", "internal/bytealg.IndexString", "internal/bytealg.CountString"], named := ["internal/bytealg.MaxLen", "unicode/utf8.first", "unicode/utf8.acceptRanges"], apart := false, laid := [("unicode/utf8.acceptRanges", laid_unicode_utf8_acceptRanges), ("unicode/utf8.first", laid_unicode_utf8_first)], narrowed := true }
def FieldJoinsUptoSaid : Prop := fieldJoinsUptoRow.holds Tryd.pinned (OpenSpec.upto fieldJoinsSpec)

/-- 'cofferlaw22.FieldLists', WHERE WHAT IT READS IS OF BULK AT MOST 1048576: true; the input reads as it did. -/
def fieldListsUptoRow : OpenClaim := { program := "ytpidakfpoihdkaadoor", sum := "4c50036d3aa6570a8ee8d81db55346616f09e167dba5653ac4a1c547f702bea7", func := "coffer/cofferlaw22.FieldLists", spec := "fieldLists", inPlace := ["internal/bytealg.IndexByteString", "internal/bytealg.IndexString", "internal/bytealg.CountString"], named := ["internal/bytealg.MaxLen", "unicode/utf8.first", "unicode/utf8.acceptRanges"], apart := false, laid := [("unicode/utf8.acceptRanges", laid_unicode_utf8_acceptRanges), ("unicode/utf8.first", laid_unicode_utf8_first)], narrowed := true }
def FieldListsUptoSaid : Prop := fieldListsUptoRow.holds Tryd.pinned (OpenSpec.upto fieldListsSpec)

end Rows
end Go.Proofs.YtpidakfpoihdkaaDoor
