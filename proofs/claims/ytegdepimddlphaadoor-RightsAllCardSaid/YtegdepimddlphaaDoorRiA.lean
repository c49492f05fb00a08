/-
  Package rights and the document's answer to it: words of small sets.
-/
import Derived.Test.YtegdepimddlphaaDoorBase
namespace Go.Proofs.YtegdepimddlphaaDoor
open Go.RowKit

/-- How a set below 16 is written as a number, and as a word. -/
def numL : Nat → List UInt8
  | 0 => [48] | 1 => [49] | 2 => [50] | 3 => [51] | 4 => [52] | 5 => [53] | 6 => [54] | 7 => [55] | 8 => [56] | 9 => [57]
  | 10 => [49, 48] | 11 => [49, 49] | 12 => [49, 50] | 13 => [49, 51] | 14 => [49, 52] | _ => [49, 53]
def wordL : Nat → List UInt8
  | 1 => [114, 101, 97, 100]
  | 3 => [97, 100, 100]
  | 7 => [102, 117, 108, 108]
  | 15 => [114, 117, 108, 101]
  | n => numL n
theorem case16 {k : Nat} (h : k < 16) : k = 0 ∨ k = 1 ∨ k = 2 ∨ k = 3 ∨ k = 4 ∨ k = 5 ∨ k = 6 ∨ k = 7 ∨ k = 8 ∨ k = 9 ∨ k = 10 ∨ k = 11 ∨ k = 12 ∨ k = 13 ∨ k = 14 ∨ k = 15 := by omega

end Go.Proofs.YtegdepimddlphaaDoor
