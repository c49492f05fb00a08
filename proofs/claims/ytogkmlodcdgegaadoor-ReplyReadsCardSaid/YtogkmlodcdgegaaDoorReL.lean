/-
  The document's answer to reply, in plain words: its way to read.
-/
import Derived.Test.YtogkmlodcdgegaaDoorReG
import Derived.Test.YtogkmlodcdgegaaDoorReC
namespace Go.Proofs.YtogkmlodcdgegaaDoor
open Go.RowKit

noncomputable def innerD (v n : Int) (b : List UInt8) (k s : Bool) : Option Rep × Bool :=
  if begB (fullL v n k) b = false then (none, s) else if b.length < (fullL v n k).length ∨ (b.length : Int) - ((fullL v n k).length : Int) < n then (none, true)
  else (some ⟨v, (b.drop (fullL v n k).length).take n.toNat, k, ((fullL v n k).length : Int) + n, 0⟩, s)
noncomputable def loopD : List Int → List UInt8 → Bool → Rep
  | [], _, s => .bad (if s then 3 else 4)
  | v :: vs, b, s =>
    if begB (headL v) b = false then loopD vs b s
    else if b.length ≤ (headL v).length then loopD vs b true
    else if (numR ⟨(digitsL b (headL v).length).toArray⟩).2 ≠ 0 then loopD vs b s
    else if b.length = (headL v).length + (digitsL b (headL v).length).length then loopD vs b true
    else match innerD v (numR ⟨(digitsL b (headL v).length).toArray⟩).1 b false s with
      | (some x, _) => x
      | (none, s1) => match innerD v (numR ⟨(digitsL b (headL v).length).toArray⟩).1 b true s1 with
        | (some x, _) => x
        | (none, s2) => loopD vs b s2
/-- Behind the first k tries of the two ends. -/
noncomputable def contD (v n : Int) (b : List UInt8) (vs : List Int) : Nat → Bool → Rep
  | 0, s => match innerD v n b false s with
    | (some x, _) => x
    | (none, s1) => match innerD v n b true s1 with
      | (some x, _) => x
      | (none, s2) => loopD vs b s2
  | 1, s => match innerD v n b true s with
    | (some x, _) => x
    | (none, s2) => loopD vs b s2
  | _, s => loopD vs b s

section
variable {v n : Int} {b : List UInt8} {vs : List Int} {s s1 : Bool} {x : Rep}
theorem cont_none0 (h : innerD v n b false s = (none, s1)) : contD v n b vs 0 s = contD v n b vs 1 s1 := by
  simp only [contD, h]
theorem cont_none1 (h : innerD v n b true s = (none, s1)) : contD v n b vs 1 s = contD v n b vs 2 s1 := by
  simp only [contD, h]
theorem cont_some0 (h : innerD v n b false s = (some x, s1)) : contD v n b vs 0 s = x := by
  simp only [contD, h]
theorem cont_some1 (h : innerD v n b true s = (some x, s1)) : contD v n b vs 1 s = x := by
  simp only [contD, h]
theorem inner_no {k : Bool} (h : begB (fullL v n k) b = false) : innerD v n b k s = (none, s) := if_pos h
theorem inner_short {k : Bool} (h : begB (fullL v n k) b = true) (h2 : b.length < (fullL v n k).length ∨ (b.length : Int) - ((fullL v n k).length : Int) < n) : innerD v n b k s = (none, true) := by
  unfold innerD
  rw [if_neg (by rw [h]; decide), if_pos h2]
theorem inner_yes {k : Bool} (h : begB (fullL v n k) b = true) (h2 : ¬ (b.length < (fullL v n k).length ∨ (b.length : Int) - ((fullL v n k).length : Int) < n)) : innerD v n b k s = (some ⟨v, (b.drop (fullL v n k).length).take n.toNat, k, ((fullL v n k).length : Int) + n, 0⟩, s) := by
  unfold innerD
  rw [if_neg (by rw [h]; decide), if_neg h2]
end
theorem full_0 (v : Int) : fullL v 0 false = headL v ++ [48, 13, 10, 13, 10] := by
  unfold fullL
  rw [List.append_assoc]
  congr 1
  have e : Lib.itoa 0 = [48] := by decide +kernel
  rw [e]
  rfl
theorem numR_range (s : ByteArray) : 0 ≤ (numR s).1 ∧ (numR s).1 ≤ 9223372036854775807 := by
  unfold numR
  split
  · split
    · dsimp only
      omega
    · exact ⟨by decide, by decide⟩
  · exact ⟨by decide, by decide⟩

end Go.Proofs.YtogkmlodcdgegaaDoor
