/-
  Package names: May, and the document's May.
-/
import Derived.Test.YtogkmlodcdgegaaDoorBase
namespace Go.Proofs.YtogkmlodcdgegaaDoor
open Go.RowKit

/-- May a byte stand in a name? -/
def inName (c : Int) : Prop := (97 ≤ c ∧ c ≤ 122) ∨ (48 ≤ c ∧ c ≤ 57) ∨ c = 45
def nameP (s : ByteArray) : Prop := 1 ≤ s.size ∧ s.size ≤ 16 ∧ (∀ h : 0 < s.size, 97 ≤ (s[0].toNat : Int) ∧ (s[0].toNat : Int) ≤ 122) ∧ ∀ k (hk : k < s.size), inName (s[k].toNat : Int)
noncomputable def nameB (s : ByteArray) : Bool := @decide (nameP s) (Classical.propDecidable _)
theorem nameB_no {s : ByteArray} (h : ¬ nameP s) : nameB s = false := by
  unfold nameB
  exact @decide_eq_false _ (Classical.propDecidable _) h
theorem nameB_yes {s : ByteArray} (h : nameP s) : nameB s = true := by
  unfold nameB
  exact @decide_eq_true _ (Classical.propDecidable _) h
theorem byte_case (c : Int) : (97 ≤ c ∧ c ≤ 122) ∨ (48 ≤ c ∧ c ≤ 57) ∨ c = 45 ∨ (c < 45) ∨ (45 < c ∧ c < 48) ∨ (57 < c ∧ c < 97) ∨ 122 < c := by omega

end Go.Proofs.YtogkmlodcdgegaaDoor
