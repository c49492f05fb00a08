/-
  Package target: plain bytes, half a byte's digit.
-/
import Derived.Test.YteldghiejmpknaaDoorQuiet
namespace Go.Proofs.YteldghiejmpknaaDoor
open Go.RowKit

def markL : List UInt8 := [45, 46, 95, 126]
/-- Is the byte plain? -/
def plB (x : UInt8) : Bool := (decide (97 ≤ x.toNat) && decide (x.toNat ≤ 122)) || (decide (65 ≤ x.toNat) && decide (x.toNat ≤ 90)) || (decide (48 ≤ x.toNat) && decide (x.toNat ≤ 57)) || markL.contains x
/-- What a digit of sixteen says, great letters too: -1 for none. -/
def hxI (x : Int) : Int := if 48 ≤ x ∧ x ≤ 57 then x - 48 else if 97 ≤ x ∧ x ≤ 102 then x - 97 + 10 else if 65 ≤ x ∧ x ≤ 70 then x - 65 + 10 else -1
def hxV (x : Int) : Int := if hxI x < 0 then 0 else hxI x
def hxB (x : Int) : Bool := decide (0 ≤ hxI x)
theorem hx_yes {x h : Int} (e : hxI x = h) (h0 : 0 ≤ h) : hxV x = h ∧ hxB x = true := by
  unfold hxV hxB
  rw [e]
  exact ⟨if_neg (by omega), decide_eq_true h0⟩
theorem hx_no {x : Int} (e : hxI x = -1) : hxV x = 0 ∧ hxB x = false := by
  unfold hxV hxB
  rw [e]
  exact ⟨rfl, rfl⟩
theorem hx_case (x : Int) : (48 ≤ x ∧ x ≤ 57) ∨ (97 ≤ x ∧ x ≤ 102) ∨ (65 ≤ x ∧ x ≤ 70) ∨ x < 48 ∨ (57 < x ∧ x < 65) ∨ (70 < x ∧ x < 97) ∨ 102 < x := by omega
theorem half_any (x : Int) (h0 : 0 ≤ x) (h1 : x ≤ 255) (w : World) : Calls Tryd.prog 41 #[.int .u8 x] w fun e w' => e = .returned (.tuple #[.int .u8 (hxV x), .bool (hxB x)]) ∧ w = w' := by
  rcases hx_case x with ⟨c1, c2⟩ | ⟨c1, c2⟩ | ⟨c1, c2⟩ | c1 | ⟨c1, c2⟩ | ⟨c1, c2⟩ | c1
  · have HE := Lib.hid (hx_yes (x := x) (h := x - 48) (if_pos ⟨c1, c2⟩) (by omega))
    clear h0 h1
    go_enter Tryd.func41, Tryd.ntmps41
    go_wp2_with fail
    go_ret2
    rw [HE.out.1, HE.out.2]
    exact ⟨rfl, rfl⟩
  · have HE := Lib.hid (hx_yes (x := x) (h := x - 97 + 10) ((if_neg (by omega)).trans (if_pos ⟨c1, c2⟩)) (by omega))
    clear h0 h1
    go_enter Tryd.func41, Tryd.ntmps41
    go_wp2_with fail
    go_ret2
    rw [HE.out.1, HE.out.2]
    exact ⟨rfl, rfl⟩
  · have HE := Lib.hid (hx_yes (x := x) (h := x - 65 + 10) ((if_neg (by omega)).trans ((if_neg (by omega)).trans (if_pos ⟨c1, c2⟩))) (by omega))
    clear h0 h1
    go_enter Tryd.func41, Tryd.ntmps41
    go_wp2_with fail
    go_ret2
    rw [HE.out.1, HE.out.2]
    exact ⟨rfl, rfl⟩
  all_goals
    have HE := Lib.hid (hx_no (x := x) ((if_neg (by omega)).trans ((if_neg (by omega)).trans (if_neg (by omega)))))
    go_enter Tryd.func41, Tryd.ntmps41
    go_wp2_with fail
    all_goals first
      | (go_ret2; rw [HE.out.1, HE.out.2]; exact ⟨rfl, rfl⟩)
      | (exfalso; simp at *; omega)

end Go.Proofs.YteldghiejmpknaaDoor
