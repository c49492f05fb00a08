/-
  Hexadecimal numbers in plain words.
-/
import Derived.Test.YthijpbakhnakeaaDoorBase
namespace Go.Proofs.YthijpbakhnakeaaDoor
open Go.RowKit

/-- A digit below 16. -/
def hexD (d : Nat) : UInt8 := if d < 10 then UInt8.ofNat (48 + d) else UInt8.ofNat (87 + d)
/-- The digits of a number; none of 0. -/
def hex0 (v : Nat) : List UInt8 := if h : v = 0 then [] else hex0 (v / 16) ++ [hexD (v % 16)]
theorem hex0_zero : hex0 0 = [] := by rw [hex0]; rfl
theorem hex0_pos {v : Nat} (h : 0 < v) : hex0 v = hex0 (v / 16) ++ [hexD (v % 16)] := by
  rw [hex0]
  exact dif_neg (by omega)
theorem hex0_one {v : Nat} (h : 0 < v) (h2 : v < 16) : hex0 v = [hexD v] := by
  rw [hex0_pos h, show v / 16 = 0 by omega, hex0_zero, show v % 16 = v by omega]
  rfl
theorem hex0_len : ∀ (k v : Nat), v < 16 ^ k → (hex0 v).length ≤ k
  | 0, v, h => by
    obtain rfl : v = 0 := by simpa using h
    rw [hex0_zero]
    exact Nat.le_refl _
  | k + 1, v, h => by
    by_cases h0 : v = 0
    · subst h0
      rw [hex0_zero]
      exact Nat.zero_le _
    · rw [hex0_pos (by omega), List.length_append]
      have := hex0_len k (v / 16) (by rw [Nat.pow_succ] at h; exact Nat.div_lt_of_lt_mul (by omega))
      simp only [List.length_cons, List.length_nil]
      omega
/-- What the digits of n are when those of v stand still out and w is there. -/
def hexAt (n v : Nat) (w : List UInt8) : Prop := hex0 n = hex0 v ++ w
theorem hexAt_start (n : Nat) : hexAt n n [] := (List.append_nil _).symm
theorem hexAt_step {n v : Nat} {w : List UInt8} (h : hexAt n v w) (hv : 0 < v) : hexAt n (v / 16) (hexD (v % 16) :: w) := by
  unfold hexAt at *
  rw [h, hex0_pos hv, List.append_assoc]
  rfl
theorem hexAt_end {n : Nat} {w : List UInt8} (h : hexAt n 0 w) : hex0 n = w := by
  unfold hexAt at h
  rw [h, hex0_zero]
  rfl
theorem hexD_get : ∀ d : Fin 16, ([48, 49, 50, 51, 52, 53, 54, 55, 56, 57, 97, 98, 99, 100, 101, 102] : List UInt8)[d.1]? = some (hexD d.1) := by decide
/-- A body in chunks of k bytes at the most. -/
def chunksL (k : Nat) : Nat → List UInt8 → List UInt8
  | 0, _ => [48, 13, 10, 13, 10]
  | f + 1, l => if l = [] then [48, 13, 10, 13, 10] else hex0 (min k l.length) ++ [13, 10] ++ l.take (min k l.length) ++ [13, 10] ++ chunksL k f (l.drop (min k l.length))
theorem chunksL_nil (k f : Nat) : chunksL k f [] = [48, 13, 10, 13, 10] := by cases f <;> simp [chunksL]
theorem chunksL_step {k f : Nat} {l : List UInt8} (h : l ≠ []) : chunksL k (f + 1) l = hex0 (min k l.length) ++ [13, 10] ++ l.take (min k l.length) ++ [13, 10] ++ chunksL k f (l.drop (min k l.length)) := if_neg h

end Go.Proofs.YthijpbakhnakeaaDoor
