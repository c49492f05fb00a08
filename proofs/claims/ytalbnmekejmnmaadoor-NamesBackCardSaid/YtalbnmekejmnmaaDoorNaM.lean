/-
  Package names: Unhex.
-/
import Derived.Test.YtalbnmekejmnmaaDoorNaK
namespace Go.Proofs.YtalbnmekejmnmaaDoor
open Go.RowKit

/-- The bytes of the first k digits, and half a byte left over. -/
def pairL : List UInt8 → List UInt8
  | x :: y :: l => UInt8.ofNat (16 * halfI x.toNat + halfI y.toNat).toNat :: pairL l
  | _ => []
theorem pairL_length : ∀ l : List UInt8, (pairL l).length = l.length / 2
  | [] => rfl
  | [_] => by simp [pairL]
  | x :: y :: l => by
    simp only [pairL, List.length_cons, pairL_length l]
    omega
theorem pairL_snoc : ∀ (l : List UInt8) (x y : UInt8), l.length % 2 = 0 → pairL (l ++ [x, y]) = pairL l ++ [UInt8.ofNat (16 * halfI x.toNat + halfI y.toNat).toNat]
  | [], _, _, _ => rfl
  | [_], _, _, h => by simp at h
  | a :: b :: l, x, y, h => by
    simp only [List.cons_append, pairL, pairL_snoc l x y (by simp at h; omega)]
theorem unhexL_pair : ∀ l : List UInt8, unhexL l = if (∀ x ∈ l, 0 ≤ halfI x.toNat) ∧ l.length % 2 = 0 then some (pairL l) else none
  | [] => by simp [unhexL, pairL]
  | [_] => by simp [unhexL]
  | x :: y :: l => by
    rw [unhexL, unhexL_pair l]
    by_cases h : halfI x.toNat < 0 ∨ halfI y.toNat < 0
    · rw [if_pos h, if_neg]
      rintro ⟨h1, _⟩
      have := h1 x (by simp)
      have := h1 y (by simp)
      omega
    · rw [if_neg h]
      have e : (∀ z ∈ x :: y :: l, 0 ≤ halfI z.toNat) ∧ (x :: y :: l).length % 2 = 0 ↔ (∀ z ∈ l, 0 ≤ halfI z.toNat) ∧ l.length % 2 = 0 := by
        simp only [List.mem_cons, forall_eq_or_imp, List.length_cons]
        constructor
        · rintro ⟨⟨_, _, q⟩, r⟩
          exact ⟨q, by omega⟩
        · rintro ⟨q, r⟩
          exact ⟨⟨by omega, by omega, q⟩, by omega⟩
      simp only [e]
      split
      · simp [pairL]
      · simp

end Go.Proofs.YtalbnmekejmnmaaDoor
