/-
  Package names: half a byte's digit, read.
-/
import Derived.Test.YtalbnmekejmnmaaDoorNaB
namespace Go.Proofs.YtalbnmekejmnmaaDoor
open Go.RowKit

/-- What a digit says: -1 for none. -/
def halfI (x : Int) : Int := if 48 ≤ x ∧ x ≤ 57 then x - 48 else if 97 ≤ x ∧ x ≤ 102 then x - 97 + 10 else -1
def halfV (x : Int) : Int := if halfI x < 0 then 0 else halfI x
def halfB (x : Int) : Bool := decide (0 ≤ halfI x)
theorem half_yes {x h : Int} (e : halfI x = h) (h0 : 0 ≤ h) : halfV x = h ∧ halfB x = true := by
  unfold halfV halfB
  rw [e]
  exact ⟨if_neg (by omega), decide_eq_true h0⟩
theorem half_no {x : Int} (e : halfI x = -1) : halfV x = 0 ∧ halfB x = false := by
  unfold halfV halfB
  rw [e]
  exact ⟨rfl, rfl⟩
theorem half_case (x : Int) : (48 ≤ x ∧ x ≤ 57) ∨ (97 ≤ x ∧ x ≤ 102) ∨ x < 48 ∨ (57 < x ∧ x < 97) ∨ 102 < x := by omega
theorem half_any (x : Int) (h0 : 0 ≤ x) (h1 : x ≤ 255) (w : World) : Calls Tryd.prog 26 #[.int .u8 x] w fun e w' => e = .returned (.tuple #[.int .u8 (halfV x), .bool (halfB x)]) ∧ w = w' := by
  rcases half_case x with ⟨c1, c2⟩ | ⟨c1, c2⟩ | c1 | ⟨c1, c2⟩ | c1
  · have HE := Lib.hid (half_yes (x := x) (h := x - 48) (if_pos ⟨c1, c2⟩) (by omega))
    clear h0 h1
    go_enter Tryd.func26, Tryd.ntmps26
    go_wp2_with fail
    go_ret2
    rw [HE.out.1, HE.out.2]
    exact ⟨rfl, rfl⟩
  · have HE := Lib.hid (half_yes (x := x) (h := x - 97 + 10) ((if_neg (by omega)).trans (if_pos ⟨c1, c2⟩)) (by omega))
    clear h0 h1
    go_enter Tryd.func26, Tryd.ntmps26
    go_wp2_with fail
    go_ret2
    rw [HE.out.1, HE.out.2]
    exact ⟨rfl, rfl⟩
  all_goals
    have HE := Lib.hid (half_no (x := x) ((if_neg (by omega)).trans (if_neg (by omega))))
    go_enter Tryd.func26, Tryd.ntmps26
    go_wp2_with fail
    all_goals first
      | (go_ret2; rw [HE.out.1, HE.out.2]; exact ⟨rfl, rfl⟩)
      | (exfalso; simp at *; omega)

end Go.Proofs.YtalbnmekejmnmaaDoor
