/-
  Package names: hexadecimal text, read: plain words.
-/
import Derived.Test.YtalbnmekejmnmaaDoorNaI
namespace Go.Proofs.YtalbnmekejmnmaaDoor
open Go.RowKit

theorem or_fin : ∀ h l : Fin 16, bits .or .u8 (16 * (h.1 : Int)) (l.1 : Int) = 16 * (h.1 : Int) + (l.1 : Int) := by decide +kernel
theorem u8_or (h l : Int) (h0 : 0 ≤ h) (h1 : h ≤ 15) (l0 : 0 ≤ l) (l1 : l ≤ 15) : bits .or .u8 (16 * h) l = 16 * h + l := by
  obtain ⟨a, rfl⟩ := Int.eq_ofNat_of_zero_le h0
  obtain ⟨b, rfl⟩ := Int.eq_ofNat_of_zero_le l0
  exact or_fin ⟨a, by omega⟩ ⟨b, by omega⟩
/-- The bytes that a text of digits says; none where a half byte says nothing or is left over. -/
def unhexL : List UInt8 → Option (List UInt8)
  | [] => some []
  | [_] => none
  | x :: y :: l => if halfI x.toNat < 0 ∨ halfI y.toNat < 0 then none else (unhexL l).map fun r => UInt8.ofNat (16 * halfI x.toNat + halfI y.toNat).toNat :: r
theorem half_dg : ∀ d : Fin 16, halfI ((dg d.1).toNat : Int) = (d.1 : Int) := by decide +kernel
theorem unhex_hex (l : List UInt8) : unhexL (hexL l) = some l := by
  induction l with
  | nil => rfl
  | cons x l ih =>
    have hx := x.toNat_lt
    have h1 := half_dg ⟨x.toNat / 16, by omega⟩
    have h2 := half_dg ⟨x.toNat % 16, by omega⟩
    dsimp only at h1 h2
    show unhexL (dg (x.toNat / 16) :: dg (x.toNat % 16) :: hexL l) = _
    rw [unhexL, h1, h2, if_neg (by omega), ih]
    simp only [Option.map_some, Option.some.injEq, List.cons.injEq, and_true]
    have e : (16 * ((x.toNat / 16 : Nat) : Int) + ((x.toNat % 16 : Nat) : Int)).toNat = x.toNat := by omega
    rw [e, UInt8.ofNat_toNat]

end Go.Proofs.YtalbnmekejmnmaaDoor
