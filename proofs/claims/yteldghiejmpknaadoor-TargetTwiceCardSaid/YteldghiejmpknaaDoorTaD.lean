/-
  The document's answer to target: half a byte's digit, plain bytes.
-/
import Derived.Test.YteldghiejmpknaaDoorTaB
namespace Go.Proofs.YteldghiejmpknaaDoor
open Go.RowKit

theorem rhalf_any (x : Int) (h0 : 0 ≤ x) (h1 : x ≤ 255) (w : World) : Calls Tryd.prog 34 #[.int .u8 x] w fun e w' => e = .returned (.int .i64 (hxI x)) ∧ w = w' := by
  rcases hx_case x with ⟨c1, c2⟩ | ⟨c1, c2⟩ | ⟨c1, c2⟩ | c1 | ⟨c1, c2⟩ | ⟨c1, c2⟩ | c1
  · have HE : Hid (hxI x = x - 48) := if_pos ⟨c1, c2⟩
    go_enter Tryd.func34, Tryd.ntmps34
    go_wp2_with fail
    go_ret
    rw [HE.out]
    exact ⟨by first | rfl | (congr 2; omega), rfl⟩
  · have HE : Hid (hxI x = x - 97 + 10) := (if_neg (by omega)).trans (if_pos ⟨c1, c2⟩)
    go_enter Tryd.func34, Tryd.ntmps34
    go_wp2_with fail
    go_ret
    rw [HE.out]
    exact ⟨by first | rfl | (congr 2; omega), rfl⟩
  · have HE : Hid (hxI x = x - 65 + 10) := (if_neg (by omega)).trans ((if_neg (by omega)).trans (if_pos ⟨c1, c2⟩))
    go_enter Tryd.func34, Tryd.ntmps34
    go_wp2_with fail
    go_ret
    rw [HE.out]
    exact ⟨by first | rfl | (congr 2; omega), rfl⟩
  all_goals
    have HE : Hid (hxI x = -1) := (if_neg (by omega)).trans ((if_neg (by omega)).trans (if_neg (by omega)))
    go_enter Tryd.func34, Tryd.ntmps34
    go_wp2_with fail
    all_goals first
      | (go_ret; rw [HE.out]; exact ⟨rfl, rfl⟩)
      | (exfalso; simp at *; omega)

theorem mark_no {x : UInt8} (h1 : x ≠ 45) (h2 : x ≠ 46) (h3 : x ≠ 95) (h4 : x ≠ 126) : markL.contains x = false := by
  simp [markL, h1, h2, h3, h4]
theorem ne_int {x : UInt8} {c : Nat} (hc : c < 256) (h : x ≠ UInt8.ofNat c) : ((x.toNat : Int) == (c : Int)) = false := by
  simp
  intro e
  refine h (UInt8.toNat_inj.1 ?_)
  rw [UInt8.toNat_ofNat_of_lt' hc]
  omega

set_option maxHeartbeats 4000000 in
theorem rplain_any (x : UInt8) (w : World) : Calls Tryd.prog 29 #[.int .u8 (x.toNat : Int)] w fun e w' => e = .returned (.bool (plB x)) ∧ w = w' := by
  by_cases m1 : x = 45
  · subst m1
    go_enter Tryd.func29, Tryd.ntmps29
    go_wp2_with fail
    go_ret
    exact ⟨rfl, rfl⟩
  by_cases m2 : x = 46
  · subst m2
    go_enter Tryd.func29, Tryd.ntmps29
    go_wp2_with fail
    go_ret
    exact ⟨rfl, rfl⟩
  by_cases m3 : x = 95
  · subst m3
    go_enter Tryd.func29, Tryd.ntmps29
    go_wp2_with fail
    go_ret
    exact ⟨rfl, rfl⟩
  by_cases m4 : x = 126
  · subst m4
    go_enter Tryd.func29, Tryd.ntmps29
    go_wp2_with fail
    go_ret
    exact ⟨rfl, rfl⟩
  have hM := mark_no m1 m2 m3 m4
  have e1 : ((x.toNat : Int) == 45) = false := ne_int (c := 45) (by omega) m1
  have e2 : ((x.toNat : Int) == 46) = false := ne_int (c := 46) (by omega) m2
  have e3 : ((x.toNat : Int) == 95) = false := ne_int (c := 95) (by omega) m3
  have e4 : ((x.toNat : Int) == 126) = false := ne_int (c := 126) (by omega) m4
  have hcs := pl_case x
  rw [hM] at hcs
  clear m1 m2 m3 m4 hM
  rcases hcs with ⟨⟨c1, c2⟩, hp⟩ | ⟨⟨c1, c2⟩, hp⟩ | ⟨⟨c1, c2⟩, hp⟩ | ⟨c1, hp⟩ | ⟨⟨c1, c2⟩, hp⟩ | ⟨⟨c1, c2⟩, hp⟩ | ⟨c1, hp⟩
  all_goals
    have HP := Lib.hid hp
    clear hp
    try have d57 : decide ((x.toNat : Int) ≤ 57) = false := decide_eq_false (by omega)
    try have d90 : decide ((x.toNat : Int) ≤ 90) = false := decide_eq_false (by omega)
    try have d122 : decide ((x.toNat : Int) ≤ 122) = false := decide_eq_false (by omega)
    go_enter Tryd.func29, Tryd.ntmps29
    go_wp2_with fail
    go_ret
    rw [HP.out]
    exact ⟨rfl, rfl⟩

end Go.Proofs.YteldghiejmpknaaDoor
