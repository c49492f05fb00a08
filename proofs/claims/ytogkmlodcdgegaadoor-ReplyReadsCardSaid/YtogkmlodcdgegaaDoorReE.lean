/-
  Package reply: reading, in plain words.
-/
import Derived.Test.YtogkmlodcdgegaaDoorReD
namespace Go.Proofs.YtogkmlodcdgegaaDoor
open Go.RowKit

/-- What stands behind the end of a head; with 'close'?; the error's number. -/
def tailsL (s : List UInt8) : List UInt8 × Bool × Int :=
  if (behindL s (tailL false)).2 = 0 then ((behindL s (tailL false)).1, false, 0)
  else if (behindL s (tailL true)).2 = 0 ∨ (behindL s (tailL false)).2 = 4 then ((behindL s (tailL true)).1, true, (behindL s (tailL true)).2)
  else ((behindL s (tailL false)).1, false, (behindL s (tailL false)).2)
/-- A reply, how many bytes it takes, the error's number. -/
structure Rep where
  v : Int
  l : List UInt8
  c : Bool
  n : Int
  e : Int
def Rep.bad (e : Int) : Rep := ⟨0, [], false, 0, e⟩
noncomputable def afterL (v : Int) (len : Nat) (s : List UInt8) : Rep :=
  if (numberL s).2.2 ≠ 0 then .bad (numberL s).2.2
  else if (tailsL (numberL s).2.1).2.2 ≠ 0 then .bad (tailsL (numberL s).2.1).2.2
  else if ((tailsL (numberL s).2.1).1.length : Int) < (numberL s).1 then .bad 3
  else ⟨v, (tailsL (numberL s).2.1).1.take (numberL s).1.toNat, (tailsL (numberL s).2.1).2.1, (len : Int) - ((tailsL (numberL s).2.1).1.length : Int) + (numberL s).1, 0⟩
/-- The status whose words stand at the front, what stands behind them, the error's number. -/
def scanL : List Int → List UInt8 → Int → Int × List UInt8 × Int
  | [], s, e => (0, s, e)
  | v :: vs, s, e => if (behindL s (headL v)).2 = 0 then (v, (behindL s (headL v)).1, 0) else scanL vs s (if (behindL s (headL v)).2 = 3 then 3 else e)
def sts : List Int := (List.range 11).map stI
noncomputable def takeP (l : List UInt8) : Rep := if (scanL sts l 4).2.2 ≠ 0 then .bad (scanL sts l 4).2.2 else afterL (scanL sts l 4).1 l.length (scanL sts l 4).2.1

theorem sts_drop (k : Nat) (h : k < 11) : sts.drop k = stI k :: sts.drop (k + 1) := by
  have hl : sts.length = 11 := by simp [sts]
  rw [List.drop_eq_getElem_cons (by omega)]
  congr 1
  simp [sts]
theorem sts_end : sts.drop 11 = [] := List.drop_eq_nil_of_le (by simp [sts])
theorem behind_cases (s t : List UInt8) : (behindL s t = (s.drop t.length, 0) ∧ Lib.hasPrefix s t = true) ∨ (behindL s t = ([], 3)) ∨ (behindL s t = ([], 4)) := by
  unfold behindL
  by_cases h1 : Lib.hasPrefix s t = true
  · rw [if_pos h1]
    exact .inl ⟨rfl, h1⟩
  · rw [if_neg h1]
    split
    · exact .inr (.inl rfl)
    · exact .inr (.inr rfl)
theorem number_fst {s : List UInt8} (h : (numberL s).2.2 = 0) : numR ⟨(s.take (runL s)).toArray⟩ = ((numberL s).1, 0) ∧ (numberL s).2.1 = s.drop (runL s) ∧ 0 ≤ (numberL s).1 ∧ (numberL s).1 ≤ 9223372036854775807 := by
  unfold numberL at *
  split at h
  · exact absurd h (by decide)
  · rename_i h1
    rw [if_neg h1]
    split at h
    · exact absurd h (by decide)
    · rename_i h2
      rw [if_neg h2]
      dsimp only
      have h3 : (numR ⟨(s.take (runL s)).toArray⟩).2 = 0 := by
        by_cases h4 : (numR ⟨(s.take (runL s)).toArray⟩).2 = 0
        · exact h4
        · exact absurd h4 h2
      refine ⟨Prod.ext rfl h3, rfl, ?_⟩
      unfold numR at h3 ⊢
      split at h3
      · rename_i h4
        split at h3
        · rename_i h5
          rw [if_pos h4, if_pos h5]
          dsimp only
          omega
        · exact absurd h3 (by decide)
      · exact absurd h3 (by decide)

end Go.Proofs.YtogkmlodcdgegaaDoor
