/-
  No cell of these rows narrows 'for every input' (looked for: loops, veiled, ifaces, maps, wideKeys, modest, calm, conditions, laid).
  DERIVED. THE GIVEN ROWS OF THIS SEAT. 6 by the template 'for every input the law returns true; each argument reads behind the call as it read before'; 0 by the template 'total and deterministic' (their statements: YtgdbdhfomlkpdaaTotals.lean).
  GIVEN WITH THE SEED: the statements are not yours to turn. If you find one false, say at which input.
  Laid BY PROGRAM, IN A SANDBOX (cutbox-rows.mjs): the forced cells as the released guide's own fill.sh prints them over the translation 3e7cd5ed07ac7b41… (all of the seat's roots in one cut). By AI agents, Wed Nov 11 2026. No macro, syntax, notation, axiom, sorry.
-/
import Derived.Test.YtgdbdhfomlkpdaaChecked
import GoSem.Claim
import GoSem.ClaimJoined
import GoSem.ClaimMapViews
import Derived.JoinedTies
import Derived.KernelRfl
namespace Go.Proofs.Ytgdbdhfomlkpdaa
/- THE CELL 'sum', in the pinned program and in every row, IS THE sha256 OF THE DUMP (.gsa) THAT YtgdbdhfomlkpdaaProg.lean LOADS. Nothing in Lean hashes anything: it is a label: what it is worth is what the hold of that sum in a sandbox is worth. -/
noncomputable def Try.pinned : Pinned := { name := "ytgdbdhfomlkpdaa", sum := "3e7cd5ed07ac7b41612c0bb646f69e44397f70c572e606e85431d7d4427caa66", checked := Try.checked }
namespace Rows
def none {H : Type} : Left H := { results := [], args := [] }

/-- 'cofferlaw15.FolderWrites': WHATEVER THE INPUT: true; the input reads as it did. -/
def folderWritesSpec : ChangeSpec := { name := "folderWrites", fn := fun _ => fun
  | [d] => { results := [.lit (.bool true)], args := [d] }
  | _ => none }
def folderWritesRow : OpenClaim := { program := "ytgdbdhfomlkpdaa", sum := "3e7cd5ed07ac7b41612c0bb646f69e44397f70c572e606e85431d7d4427caa66", func := "coffer/cofferlaw15.FolderWrites", spec := "folderWrites", inPlace := ["internal/bytealg.IndexByteString", "internal/bytealg.IndexString"], named := ["internal/bytealg.MaxLen"], apart := false }
def FolderWritesSaid : Prop := folderWritesRow.holds Try.pinned (OpenSpec.ofChange folderWritesSpec)

/-- ITS FALSE NEIGHBOUR: 'it returns false'. Refute it at one input. -/
def folderWritesWrong : ChangeSpec := { name := "folderWrites", fn := fun _ => fun
  | [d] => { results := [.lit (.bool false)], args := [d] }
  | _ => none }
def FolderWritesWrongFalsely : Prop := folderWritesRow.holds Try.pinned (OpenSpec.ofChange folderWritesWrong)

/-- 'cofferlaw15.FolderReads': WHATEVER THE INPUT: true; the input reads as it did. -/
def folderReadsSpec : ChangeSpec := { name := "folderReads", fn := fun _ => fun
  | [d] => { results := [.lit (.bool true)], args := [d] }
  | _ => none }
def folderReadsRow : OpenClaim := { program := "ytgdbdhfomlkpdaa", sum := "3e7cd5ed07ac7b41612c0bb646f69e44397f70c572e606e85431d7d4427caa66", func := "coffer/cofferlaw15.FolderReads", spec := "folderReads", inPlace := ["internal/bytealg.IndexByteString", "internal/bytealg.IndexString"], named := ["internal/bytealg.MaxLen"], apart := false }
def FolderReadsSaid : Prop := folderReadsRow.holds Try.pinned (OpenSpec.ofChange folderReadsSpec)

/-- ITS FALSE NEIGHBOUR: 'it returns false'. Refute it at one input. -/
def folderReadsWrong : ChangeSpec := { name := "folderReads", fn := fun _ => fun
  | [d] => { results := [.lit (.bool false)], args := [d] }
  | _ => none }
def FolderReadsWrongFalsely : Prop := folderReadsRow.holds Try.pinned (OpenSpec.ofChange folderReadsWrong)

/-- 'cofferlaw15.FolderNames': WHATEVER THE INPUT: true; the input reads as it did. -/
def folderNamesSpec : ChangeSpec := { name := "folderNames", fn := fun _ => fun
  | [d] => { results := [.lit (.bool true)], args := [d] }
  | _ => none }
def folderNamesRow : OpenClaim := { program := "ytgdbdhfomlkpdaa", sum := "3e7cd5ed07ac7b41612c0bb646f69e44397f70c572e606e85431d7d4427caa66", func := "coffer/cofferlaw15.FolderNames", spec := "folderNames", inPlace := ["internal/bytealg.IndexByteString", "internal/bytealg.IndexString"], named := ["internal/bytealg.MaxLen"], apart := false }
def FolderNamesSaid : Prop := folderNamesRow.holds Try.pinned (OpenSpec.ofChange folderNamesSpec)

/-- ITS FALSE NEIGHBOUR: 'it returns false'. Refute it at one input. -/
def folderNamesWrong : ChangeSpec := { name := "folderNames", fn := fun _ => fun
  | [d] => { results := [.lit (.bool false)], args := [d] }
  | _ => none }
def FolderNamesWrongFalsely : Prop := folderNamesRow.holds Try.pinned (OpenSpec.ofChange folderNamesWrong)

/-- 'cofferlaw15.FolderBack': WHATEVER THE INPUT: true; the input reads as it did. -/
def folderBackSpec : ChangeSpec := { name := "folderBack", fn := fun _ => fun
  | [d1, d2, d3] => { results := [.lit (.bool true)], args := [d1, d2, d3] }
  | _ => none }
def folderBackRow : OpenClaim := { program := "ytgdbdhfomlkpdaa", sum := "3e7cd5ed07ac7b41612c0bb646f69e44397f70c572e606e85431d7d4427caa66", func := "coffer/cofferlaw15.FolderBack", spec := "folderBack", inPlace := ["internal/bytealg.IndexByteString", "internal/bytealg.IndexString"], named := ["internal/bytealg.MaxLen"], apart := false }
def FolderBackSaid : Prop := folderBackRow.holds Try.pinned (OpenSpec.ofChange folderBackSpec)

/-- ITS FALSE NEIGHBOUR: 'it returns false'. Refute it at one input. -/
def folderBackWrong : ChangeSpec := { name := "folderBack", fn := fun _ => fun
  | [d1, d2, d3] => { results := [.lit (.bool false)], args := [d1, d2, d3] }
  | _ => none }
def FolderBackWrongFalsely : Prop := folderBackRow.holds Try.pinned (OpenSpec.ofChange folderBackWrong)

/-- 'cofferlaw15.FolderTurned': WHATEVER THE INPUT: true; the input reads as it did. -/
def folderTurnedSpec : ChangeSpec := { name := "folderTurned", fn := fun _ => fun
  | [d1, d2, d3] => { results := [.lit (.bool true)], args := [d1, d2, d3] }
  | _ => none }
def folderTurnedRow : OpenClaim := { program := "ytgdbdhfomlkpdaa", sum := "3e7cd5ed07ac7b41612c0bb646f69e44397f70c572e606e85431d7d4427caa66", func := "coffer/cofferlaw15.FolderTurned", spec := "folderTurned", inPlace := ["internal/bytealg.IndexByteString", "internal/bytealg.IndexString"], named := ["internal/bytealg.MaxLen"], apart := false }
def FolderTurnedSaid : Prop := folderTurnedRow.holds Try.pinned (OpenSpec.ofChange folderTurnedSpec)

/-- ITS FALSE NEIGHBOUR: 'it returns false'. Refute it at one input. -/
def folderTurnedWrong : ChangeSpec := { name := "folderTurned", fn := fun _ => fun
  | [d1, d2, d3] => { results := [.lit (.bool false)], args := [d1, d2, d3] }
  | _ => none }
def FolderTurnedWrongFalsely : Prop := folderTurnedRow.holds Try.pinned (OpenSpec.ofChange folderTurnedWrong)

/-- 'cofferlaw15.FolderFinds': WHATEVER THE INPUT: true; the input reads as it did. -/
def folderFindsSpec : ChangeSpec := { name := "folderFinds", fn := fun _ => fun
  | [d1, d2] => { results := [.lit (.bool true)], args := [d1, d2] }
  | _ => none }
def folderFindsRow : OpenClaim := { program := "ytgdbdhfomlkpdaa", sum := "3e7cd5ed07ac7b41612c0bb646f69e44397f70c572e606e85431d7d4427caa66", func := "coffer/cofferlaw15.FolderFinds", spec := "folderFinds", inPlace := ["internal/bytealg.IndexByteString", "internal/bytealg.IndexString"], unfollowed := true, recurses := true, named := ["internal/bytealg.MaxLen"], apart := false }
def FolderFindsSaid : Prop := folderFindsRow.holds Try.pinned (OpenSpec.ofChange folderFindsSpec)

/-- ITS FALSE NEIGHBOUR: 'it returns false'. Refute it at one input. -/
def folderFindsWrong : ChangeSpec := { name := "folderFinds", fn := fun _ => fun
  | [d1, d2] => { results := [.lit (.bool false)], args := [d1, d2] }
  | _ => none }
def FolderFindsWrongFalsely : Prop := folderFindsRow.holds Try.pinned (OpenSpec.ofChange folderFindsWrong)

/- THE SECOND FORM. 'bulk': how many values and letters a reading holds, each counted each time it is reached (what is shared counts as often as it is met; a slice's spare places count too). A statement '..UptoSaid' is the law's where the arguments, and the package variables that the reading takes, are together of bulk at most 1048576: NARROWER than '..Said'. Prove '..Said' where nothing that the law and all that it calls make is longer than what came in: it says more and counts as full. Else prove '..UptoSaid'. A law counts once. -/
mutual
def uptoBulk {H : Type} : DataW H → Nat
  | .lit (.string bytes) => bytes.length + 1
  | .lit _ => 1
  | .nil => 1
  | .ptr d => uptoBulk d + 1
  | .slice elems spare => uptoBulkAll elems + uptoBulkAll spare + 1
  | .agg parts => uptoBulkAll parts + 1
  | .iface _ d => uptoBulk d + 1
  | .map entries => uptoBulkEntries entries + 1
  | .held _ => 1
def uptoBulkAll {H : Type} : List (DataW H) → Nat
  | [] => 0
  | d :: r => uptoBulk d + uptoBulkAll r
def uptoBulkEntries {H : Type} : List (Lit × DataW H) → Nat
  | [] => 0
  | x :: r => uptoBulkEntry x + uptoBulkEntries r
def uptoBulkEntry {H : Type} : Lit × DataW H → Nat
  | (.string bytes, d) => bytes.length + uptoBulk d + 1
  | (_, d) => uptoBulk d + 1
 end
def uptoSmall : (H : Type) → List (DataW H) → Bool := fun _ ds => decide (uptoBulkAll ds ≤ 1048576)
def OpenSpec.upto (s : _root_.Go.ChangeSpec) : _root_.Go.OpenSpec := { _root_.Go.OpenSpec.ofChange s with cond := some uptoSmall }

/-- 'cofferlaw15.FolderWrites', WHERE WHAT IT READS IS OF BULK AT MOST 1048576: true; the input reads as it did. -/
def folderWritesUptoRow : OpenClaim := { program := "ytgdbdhfomlkpdaa", sum := "3e7cd5ed07ac7b41612c0bb646f69e44397f70c572e606e85431d7d4427caa66", func := "coffer/cofferlaw15.FolderWrites", spec := "folderWrites", inPlace := ["internal/bytealg.IndexByteString", "internal/bytealg.IndexString"], named := ["internal/bytealg.MaxLen"], apart := false, narrowed := true }
def FolderWritesUptoSaid : Prop := folderWritesUptoRow.holds Try.pinned (OpenSpec.upto folderWritesSpec)

/-- 'cofferlaw15.FolderReads', WHERE WHAT IT READS IS OF BULK AT MOST 1048576: true; the input reads as it did. -/
def folderReadsUptoRow : OpenClaim := { program := "ytgdbdhfomlkpdaa", sum := "3e7cd5ed07ac7b41612c0bb646f69e44397f70c572e606e85431d7d4427caa66", func := "coffer/cofferlaw15.FolderReads", spec := "folderReads", inPlace := ["internal/bytealg.IndexByteString", "internal/bytealg.IndexString"], named := ["internal/bytealg.MaxLen"], apart := false, narrowed := true }
def FolderReadsUptoSaid : Prop := folderReadsUptoRow.holds Try.pinned (OpenSpec.upto folderReadsSpec)

/-- 'cofferlaw15.FolderNames', WHERE WHAT IT READS IS OF BULK AT MOST 1048576: true; the input reads as it did. -/
def folderNamesUptoRow : OpenClaim := { program := "ytgdbdhfomlkpdaa", sum := "3e7cd5ed07ac7b41612c0bb646f69e44397f70c572e606e85431d7d4427caa66", func := "coffer/cofferlaw15.FolderNames", spec := "folderNames", inPlace := ["internal/bytealg.IndexByteString", "internal/bytealg.IndexString"], named := ["internal/bytealg.MaxLen"], apart := false, narrowed := true }
def FolderNamesUptoSaid : Prop := folderNamesUptoRow.holds Try.pinned (OpenSpec.upto folderNamesSpec)

/-- 'cofferlaw15.FolderBack', WHERE WHAT IT READS IS OF BULK AT MOST 1048576: true; the input reads as it did. -/
def folderBackUptoRow : OpenClaim := { program := "ytgdbdhfomlkpdaa", sum := "3e7cd5ed07ac7b41612c0bb646f69e44397f70c572e606e85431d7d4427caa66", func := "coffer/cofferlaw15.FolderBack", spec := "folderBack", inPlace := ["internal/bytealg.IndexByteString", "internal/bytealg.IndexString"], named := ["internal/bytealg.MaxLen"], apart := false, narrowed := true }
def FolderBackUptoSaid : Prop := folderBackUptoRow.holds Try.pinned (OpenSpec.upto folderBackSpec)

/-- 'cofferlaw15.FolderTurned', WHERE WHAT IT READS IS OF BULK AT MOST 1048576: true; the input reads as it did. -/
def folderTurnedUptoRow : OpenClaim := { program := "ytgdbdhfomlkpdaa", sum := "3e7cd5ed07ac7b41612c0bb646f69e44397f70c572e606e85431d7d4427caa66", func := "coffer/cofferlaw15.FolderTurned", spec := "folderTurned", inPlace := ["internal/bytealg.IndexByteString", "internal/bytealg.IndexString"], named := ["internal/bytealg.MaxLen"], apart := false, narrowed := true }
def FolderTurnedUptoSaid : Prop := folderTurnedUptoRow.holds Try.pinned (OpenSpec.upto folderTurnedSpec)

/-- 'cofferlaw15.FolderFinds', WHERE WHAT IT READS IS OF BULK AT MOST 1048576: true; the input reads as it did. -/
def folderFindsUptoRow : OpenClaim := { program := "ytgdbdhfomlkpdaa", sum := "3e7cd5ed07ac7b41612c0bb646f69e44397f70c572e606e85431d7d4427caa66", func := "coffer/cofferlaw15.FolderFinds", spec := "folderFinds", inPlace := ["internal/bytealg.IndexByteString", "internal/bytealg.IndexString"], unfollowed := true, recurses := true, named := ["internal/bytealg.MaxLen"], apart := false, narrowed := true }
def FolderFindsUptoSaid : Prop := folderFindsUptoRow.holds Try.pinned (OpenSpec.upto folderFindsSpec)

end Rows
end Go.Proofs.Ytgdbdhfomlkpdaa
