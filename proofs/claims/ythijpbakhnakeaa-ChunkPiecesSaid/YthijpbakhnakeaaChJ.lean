/-
  The document's answer to chunk: digit.
-/
import Derived.Test.YthijpbakhnakeaaChI
namespace Go.Proofs.Ythijpbakhnakeaa
open Go.RowKit

set_option maxHeartbeats 1000000 in
theorem rdigit_any (c : UInt8) (w : World) :
    Calls Try.prog 26 #[.int .u8 (c.toNat : Int)] w fun e w' => e = .returned (.int .i64 (digP (c.toNat : Int))) ∧ w = w' := by
  have hc := c.toNat_lt
  obtain ⟨C, hC⟩ : ∃ C, c.toNat = C := ⟨_, rfl⟩
  rw [hC] at hc ⊢
  have hcase : (48 ≤ C ∧ C ≤ 57) ∨ (C < 48) ∨ (57 < C ∧ C < 65) ∨ (65 ≤ C ∧ C ≤ 70) ∨ (70 < C ∧ C < 97) ∨ (97 ≤ C ∧ C ≤ 102) ∨ (102 < C) := by omega
  rcases hcase with ⟨h1, h2⟩ | h1 | ⟨h1, h2⟩ | ⟨h1, h2⟩ | ⟨h1, h2⟩ | ⟨h1, h2⟩ | h1
  all_goals
    obtain ⟨d, hd⟩ : ∃ d, digP (C : Int) = d := ⟨_, rfl⟩
    have hd' := hd
    unfold digP at hd'
    first | (rw [if_pos (by omega)] at hd') | (rw [if_neg (by omega), if_pos (by omega)] at hd') | (rw [if_neg (by omega), if_neg (by omega), if_pos (by omega)] at hd') | (rw [if_neg (by omega), if_neg (by omega), if_neg (by omega)] at hd')
    rw [hd]
    clear hd
    first
      | (have e1 : d = (C : Int) - 48 := by omega
         rw [e1])
      | (have e1 : d = (C : Int) - 97 + 10 := by omega
         rw [e1])
      | (have e1 : d = (C : Int) - 65 + 10 := by omega
         rw [e1])
      | (have e1 : d = -1 := by omega
         rw [e1])
    clear hd' e1
    go_enter Try.func26, Try.ntmps26
    go_wp2_with fail
    go_ret
    exact ⟨rfl, rfl⟩

end Go.Proofs.Ythijpbakhnakeaa
