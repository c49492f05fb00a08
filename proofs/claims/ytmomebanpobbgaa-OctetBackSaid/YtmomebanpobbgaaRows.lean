/-
  No cell of these rows narrows 'for every input' (looked for: loops, veiled, ifaces, maps, wideKeys, modest, calm, conditions, laid).
  DERIVED. THE GIVEN ROWS OF THIS SEAT. 8 by the template 'for every input the law returns true; each argument reads behind the call as it read before'; 0 by the template 'total and deterministic' (their statements: YtmomebanpobbgaaTotals.lean).
  GIVEN WITH THE SEED: the statements are not yours to turn. If you find one false, say at which input.
  Laid BY PROGRAM, IN A SANDBOX (cutbox-rows.mjs): the forced cells as the released guide's own fill.sh prints them over the translation 1234e137ad8ce9de… (all of the seat's roots in one cut). By AI agents, Wed Nov 11 2026. No macro, syntax, notation, axiom, sorry.
-/
import Derived.Test.YtmomebanpobbgaaChecked
import GoSem.Claim
import GoSem.ClaimJoined
import GoSem.ClaimMapViews
import Derived.JoinedTies
import Derived.KernelRfl
namespace Go.Proofs.Ytmomebanpobbgaa
/- THE CELL 'sum', in the pinned program and in every row, IS THE sha256 OF THE DUMP (.gsa) THAT YtmomebanpobbgaaProg.lean LOADS. Nothing in Lean hashes anything: it is a label: what it is worth is what the hold of that sum in a sandbox is worth. -/
noncomputable def Try.pinned : Pinned := { name := "ytmomebanpobbgaa", sum := "1234e137ad8ce9de3aa14a65450711bece9d581acdb8b0ce84f4ccbf88903419", checked := Try.checked }
namespace Rows
def none {H : Type} : Left H := { results := [], args := [] }

/-- 'cofferlaw1.OctetOrder': WHATEVER THE INPUT: true; the input reads as it did. -/
def octetOrderSpec : ChangeSpec := { name := "octetOrder", fn := fun _ => fun
  | [d1, d2] => { results := [.lit (.bool true)], args := [d1, d2] }
  | _ => none }
def octetOrderRow : OpenClaim := { program := "ytmomebanpobbgaa", sum := "1234e137ad8ce9de3aa14a65450711bece9d581acdb8b0ce84f4ccbf88903419", func := "coffer/cofferlaw1.OctetOrder", spec := "octetOrder", apart := false }
def OctetOrderSaid : Prop := octetOrderRow.holds Try.pinned (OpenSpec.ofChange octetOrderSpec)

/-- ITS FALSE NEIGHBOUR: 'it returns false'. Refute it at one input. -/
def octetOrderWrong : ChangeSpec := { name := "octetOrder", fn := fun _ => fun
  | [d1, d2] => { results := [.lit (.bool false)], args := [d1, d2] }
  | _ => none }
def OctetOrderWrongFalsely : Prop := octetOrderRow.holds Try.pinned (OpenSpec.ofChange octetOrderWrong)

/-- 'cofferlaw1.OctetApart': WHATEVER THE INPUT: true; the input reads as it did. -/
def octetApartSpec : ChangeSpec := { name := "octetApart", fn := fun _ => fun
  | [d1, d2] => { results := [.lit (.bool true)], args := [d1, d2] }
  | _ => none }
def octetApartRow : OpenClaim := { program := "ytmomebanpobbgaa", sum := "1234e137ad8ce9de3aa14a65450711bece9d581acdb8b0ce84f4ccbf88903419", func := "coffer/cofferlaw1.OctetApart", spec := "octetApart", apart := false }
def OctetApartSaid : Prop := octetApartRow.holds Try.pinned (OpenSpec.ofChange octetApartSpec)

/-- ITS FALSE NEIGHBOUR: 'it returns false'. Refute it at one input. -/
def octetApartWrong : ChangeSpec := { name := "octetApart", fn := fun _ => fun
  | [d1, d2] => { results := [.lit (.bool false)], args := [d1, d2] }
  | _ => none }
def OctetApartWrongFalsely : Prop := octetApartRow.holds Try.pinned (OpenSpec.ofChange octetApartWrong)

/-- 'cofferlaw1.OctetTurns': WHATEVER THE INPUT: true; the input reads as it did. -/
def octetTurnsSpec : ChangeSpec := { name := "octetTurns", fn := fun _ => fun
  | [d1, d2, d3] => { results := [.lit (.bool true)], args := [d1, d2, d3] }
  | _ => none }
def octetTurnsRow : OpenClaim := { program := "ytmomebanpobbgaa", sum := "1234e137ad8ce9de3aa14a65450711bece9d581acdb8b0ce84f4ccbf88903419", func := "coffer/cofferlaw1.OctetTurns", spec := "octetTurns", apart := false }
def OctetTurnsSaid : Prop := octetTurnsRow.holds Try.pinned (OpenSpec.ofChange octetTurnsSpec)

/-- ITS FALSE NEIGHBOUR: 'it returns false'. Refute it at one input. -/
def octetTurnsWrong : ChangeSpec := { name := "octetTurns", fn := fun _ => fun
  | [d1, d2, d3] => { results := [.lit (.bool false)], args := [d1, d2, d3] }
  | _ => none }
def OctetTurnsWrongFalsely : Prop := octetTurnsRow.holds Try.pinned (OpenSpec.ofChange octetTurnsWrong)

/-- 'cofferlaw1.OctetWrites': WHATEVER THE INPUT: true; the input reads as it did. -/
def octetWritesSpec : ChangeSpec := { name := "octetWrites", fn := fun _ => fun
  | [d1, d2, d3, d4] => { results := [.lit (.bool true)], args := [d1, d2, d3, d4] }
  | _ => none }
def octetWritesRow : OpenClaim := { program := "ytmomebanpobbgaa", sum := "1234e137ad8ce9de3aa14a65450711bece9d581acdb8b0ce84f4ccbf88903419", func := "coffer/cofferlaw1.OctetWrites", spec := "octetWrites", apart := false }
def OctetWritesSaid : Prop := octetWritesRow.holds Try.pinned (OpenSpec.ofChange octetWritesSpec)

/-- ITS FALSE NEIGHBOUR: 'it returns false'. Refute it at one input. -/
def octetWritesWrong : ChangeSpec := { name := "octetWrites", fn := fun _ => fun
  | [d1, d2, d3, d4] => { results := [.lit (.bool false)], args := [d1, d2, d3, d4] }
  | _ => none }
def OctetWritesWrongFalsely : Prop := octetWritesRow.holds Try.pinned (OpenSpec.ofChange octetWritesWrong)

/-- 'cofferlaw1.OctetBits': WHATEVER THE INPUT: true; the input reads as it did. -/
def octetBitsSpec : ChangeSpec := { name := "octetBits", fn := fun _ => fun
  | [d1, d2, d3] => { results := [.lit (.bool true)], args := [d1, d2, d3] }
  | _ => none }
def octetBitsRow : OpenClaim := { program := "ytmomebanpobbgaa", sum := "1234e137ad8ce9de3aa14a65450711bece9d581acdb8b0ce84f4ccbf88903419", func := "coffer/cofferlaw1.OctetBits", spec := "octetBits", apart := false }
def OctetBitsSaid : Prop := octetBitsRow.holds Try.pinned (OpenSpec.ofChange octetBitsSpec)

/-- ITS FALSE NEIGHBOUR: 'it returns false'. Refute it at one input. -/
def octetBitsWrong : ChangeSpec := { name := "octetBits", fn := fun _ => fun
  | [d1, d2, d3] => { results := [.lit (.bool false)], args := [d1, d2, d3] }
  | _ => none }
def OctetBitsWrongFalsely : Prop := octetBitsRow.holds Try.pinned (OpenSpec.ofChange octetBitsWrong)

/-- 'cofferlaw1.OctetBitsStay': WHATEVER THE INPUT: true; the input reads as it did. -/
def octetBitsStaySpec : ChangeSpec := { name := "octetBitsStay", fn := fun _ => fun
  | [d1, d2, d3, d4] => { results := [.lit (.bool true)], args := [d1, d2, d3, d4] }
  | _ => none }
def octetBitsStayRow : OpenClaim := { program := "ytmomebanpobbgaa", sum := "1234e137ad8ce9de3aa14a65450711bece9d581acdb8b0ce84f4ccbf88903419", func := "coffer/cofferlaw1.OctetBitsStay", spec := "octetBitsStay", apart := false }
def OctetBitsStaySaid : Prop := octetBitsStayRow.holds Try.pinned (OpenSpec.ofChange octetBitsStaySpec)

/-- ITS FALSE NEIGHBOUR: 'it returns false'. Refute it at one input. -/
def octetBitsStayWrong : ChangeSpec := { name := "octetBitsStay", fn := fun _ => fun
  | [d1, d2, d3, d4] => { results := [.lit (.bool false)], args := [d1, d2, d3, d4] }
  | _ => none }
def OctetBitsStayWrongFalsely : Prop := octetBitsStayRow.holds Try.pinned (OpenSpec.ofChange octetBitsStayWrong)

/-- 'cofferlaw1.OctetReads': WHATEVER THE INPUT: true; the input reads as it did. -/
def octetReadsSpec : ChangeSpec := { name := "octetReads", fn := fun _ => fun
  | [d1, d2, d3] => { results := [.lit (.bool true)], args := [d1, d2, d3] }
  | _ => none }
def octetReadsRow : OpenClaim := { program := "ytmomebanpobbgaa", sum := "1234e137ad8ce9de3aa14a65450711bece9d581acdb8b0ce84f4ccbf88903419", func := "coffer/cofferlaw1.OctetReads", spec := "octetReads", apart := false }
def OctetReadsSaid : Prop := octetReadsRow.holds Try.pinned (OpenSpec.ofChange octetReadsSpec)

/-- ITS FALSE NEIGHBOUR: 'it returns false'. Refute it at one input. -/
def octetReadsWrong : ChangeSpec := { name := "octetReads", fn := fun _ => fun
  | [d1, d2, d3] => { results := [.lit (.bool false)], args := [d1, d2, d3] }
  | _ => none }
def OctetReadsWrongFalsely : Prop := octetReadsRow.holds Try.pinned (OpenSpec.ofChange octetReadsWrong)

/-- 'cofferlaw1.OctetBack': WHATEVER THE INPUT: true; the input reads as it did. -/
def octetBackSpec : ChangeSpec := { name := "octetBack", fn := fun _ => fun
  | [d1, d2, d3, d4] => { results := [.lit (.bool true)], args := [d1, d2, d3, d4] }
  | _ => none }
def octetBackRow : OpenClaim := { program := "ytmomebanpobbgaa", sum := "1234e137ad8ce9de3aa14a65450711bece9d581acdb8b0ce84f4ccbf88903419", func := "coffer/cofferlaw1.OctetBack", spec := "octetBack", apart := false }
def OctetBackSaid : Prop := octetBackRow.holds Try.pinned (OpenSpec.ofChange octetBackSpec)

/-- ITS FALSE NEIGHBOUR: 'it returns false'. Refute it at one input. -/
def octetBackWrong : ChangeSpec := { name := "octetBack", fn := fun _ => fun
  | [d1, d2, d3, d4] => { results := [.lit (.bool false)], args := [d1, d2, d3, d4] }
  | _ => none }
def OctetBackWrongFalsely : Prop := octetBackRow.holds Try.pinned (OpenSpec.ofChange octetBackWrong)

/- THE SECOND FORM. 'bulk': how many values and letters a reading holds, each counted each time it is reached (what is shared counts as often as it is met; a slice's spare places count too). A statement '..UptoSaid' is the law's where the arguments, and the package variables that the reading takes, are together of bulk at most 1048576: NARROWER than '..Said'. Prove '..Said' where nothing that the law and all that it calls make is longer than what came in: it says more and counts as full. Else prove '..UptoSaid'. A law counts once. -/
mutual
def uptoBulk {H : Type} : DataW H → Nat
  | .lit (.string bytes) => bytes.length + 1
  | .lit _ => 1
  | .nil => 1
  | .ptr d => uptoBulk d + 1
  | .slice elems spare => uptoBulkAll elems + uptoBulkAll spare + 1
  | .agg parts => uptoBulkAll parts + 1
  | .iface _ d => uptoBulk d + 1
  | .map entries => uptoBulkEntries entries + 1
  | .held _ => 1
def uptoBulkAll {H : Type} : List (DataW H) → Nat
  | [] => 0
  | d :: r => uptoBulk d + uptoBulkAll r
def uptoBulkEntries {H : Type} : List (Lit × DataW H) → Nat
  | [] => 0
  | x :: r => uptoBulkEntry x + uptoBulkEntries r
def uptoBulkEntry {H : Type} : Lit × DataW H → Nat
  | (.string bytes, d) => bytes.length + uptoBulk d + 1
  | (_, d) => uptoBulk d + 1
 end
def uptoSmall : (H : Type) → List (DataW H) → Bool := fun _ ds => decide (uptoBulkAll ds ≤ 1048576)
def OpenSpec.upto (s : _root_.Go.ChangeSpec) : _root_.Go.OpenSpec := { _root_.Go.OpenSpec.ofChange s with cond := some uptoSmall }

/-- 'cofferlaw1.OctetOrder', WHERE WHAT IT READS IS OF BULK AT MOST 1048576: true; the input reads as it did. -/
def octetOrderUptoRow : OpenClaim := { program := "ytmomebanpobbgaa", sum := "1234e137ad8ce9de3aa14a65450711bece9d581acdb8b0ce84f4ccbf88903419", func := "coffer/cofferlaw1.OctetOrder", spec := "octetOrder", apart := false, narrowed := true }
def OctetOrderUptoSaid : Prop := octetOrderUptoRow.holds Try.pinned (OpenSpec.upto octetOrderSpec)

/-- 'cofferlaw1.OctetApart', WHERE WHAT IT READS IS OF BULK AT MOST 1048576: true; the input reads as it did. -/
def octetApartUptoRow : OpenClaim := { program := "ytmomebanpobbgaa", sum := "1234e137ad8ce9de3aa14a65450711bece9d581acdb8b0ce84f4ccbf88903419", func := "coffer/cofferlaw1.OctetApart", spec := "octetApart", apart := false, narrowed := true }
def OctetApartUptoSaid : Prop := octetApartUptoRow.holds Try.pinned (OpenSpec.upto octetApartSpec)

/-- 'cofferlaw1.OctetTurns', WHERE WHAT IT READS IS OF BULK AT MOST 1048576: true; the input reads as it did. -/
def octetTurnsUptoRow : OpenClaim := { program := "ytmomebanpobbgaa", sum := "1234e137ad8ce9de3aa14a65450711bece9d581acdb8b0ce84f4ccbf88903419", func := "coffer/cofferlaw1.OctetTurns", spec := "octetTurns", apart := false, narrowed := true }
def OctetTurnsUptoSaid : Prop := octetTurnsUptoRow.holds Try.pinned (OpenSpec.upto octetTurnsSpec)

/-- 'cofferlaw1.OctetWrites', WHERE WHAT IT READS IS OF BULK AT MOST 1048576: true; the input reads as it did. -/
def octetWritesUptoRow : OpenClaim := { program := "ytmomebanpobbgaa", sum := "1234e137ad8ce9de3aa14a65450711bece9d581acdb8b0ce84f4ccbf88903419", func := "coffer/cofferlaw1.OctetWrites", spec := "octetWrites", apart := false, narrowed := true }
def OctetWritesUptoSaid : Prop := octetWritesUptoRow.holds Try.pinned (OpenSpec.upto octetWritesSpec)

/-- 'cofferlaw1.OctetBits', WHERE WHAT IT READS IS OF BULK AT MOST 1048576: true; the input reads as it did. -/
def octetBitsUptoRow : OpenClaim := { program := "ytmomebanpobbgaa", sum := "1234e137ad8ce9de3aa14a65450711bece9d581acdb8b0ce84f4ccbf88903419", func := "coffer/cofferlaw1.OctetBits", spec := "octetBits", apart := false, narrowed := true }
def OctetBitsUptoSaid : Prop := octetBitsUptoRow.holds Try.pinned (OpenSpec.upto octetBitsSpec)

/-- 'cofferlaw1.OctetBitsStay', WHERE WHAT IT READS IS OF BULK AT MOST 1048576: true; the input reads as it did. -/
def octetBitsStayUptoRow : OpenClaim := { program := "ytmomebanpobbgaa", sum := "1234e137ad8ce9de3aa14a65450711bece9d581acdb8b0ce84f4ccbf88903419", func := "coffer/cofferlaw1.OctetBitsStay", spec := "octetBitsStay", apart := false, narrowed := true }
def OctetBitsStayUptoSaid : Prop := octetBitsStayUptoRow.holds Try.pinned (OpenSpec.upto octetBitsStaySpec)

/-- 'cofferlaw1.OctetReads', WHERE WHAT IT READS IS OF BULK AT MOST 1048576: true; the input reads as it did. -/
def octetReadsUptoRow : OpenClaim := { program := "ytmomebanpobbgaa", sum := "1234e137ad8ce9de3aa14a65450711bece9d581acdb8b0ce84f4ccbf88903419", func := "coffer/cofferlaw1.OctetReads", spec := "octetReads", apart := false, narrowed := true }
def OctetReadsUptoSaid : Prop := octetReadsUptoRow.holds Try.pinned (OpenSpec.upto octetReadsSpec)

/-- 'cofferlaw1.OctetBack', WHERE WHAT IT READS IS OF BULK AT MOST 1048576: true; the input reads as it did. -/
def octetBackUptoRow : OpenClaim := { program := "ytmomebanpobbgaa", sum := "1234e137ad8ce9de3aa14a65450711bece9d581acdb8b0ce84f4ccbf88903419", func := "coffer/cofferlaw1.OctetBack", spec := "octetBack", apart := false, narrowed := true }
def OctetBackUptoSaid : Prop := octetBackUptoRow.holds Try.pinned (OpenSpec.upto octetBackSpec)

end Rows
end Go.Proofs.Ytmomebanpobbgaa
