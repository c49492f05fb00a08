/-
  The document's May.
-/
import Derived.Test.YtalbnmekejmnmaaDoorNaA
namespace Go.Proofs.YtalbnmekejmnmaaDoor
open Go.RowKit

set_option maxRecDepth 20000 in
set_option maxHeartbeats 4000000 in
theorem RMay_any (s : ByteArray) (w : World) : Calls Tryd.prog 10 #[.string s] w fun e w' => e = .returned (.bool (nameB s)) ∧ w = w' := by
  by_cases h1 : (s.size : Int) < 1
  · have HN := Lib.hid (nameB_no (s := s) (fun h => by have := h.1; omega))
    go_enter Tryd.func10, Tryd.ntmps10
    go_wp2_with fail
    go_ret
    rw [HN.out]
    exact ⟨rfl, rfl⟩
  by_cases h2 : (16 : Int) < s.size
  · have HN := Lib.hid (nameB_no (s := s) (fun h => by have := h.2.1; omega))
    have h1' : decide ((s.size : Int) < 1) = false := by simpa using h1
    clear h1
    go_enter Tryd.func10, Tryd.ntmps10
    go_wp2_with fail
    go_ret
    rw [HN.out]
    exact ⟨rfl, rfl⟩
  have h0 : 0 < s.size := by omega
  have h1' : (1 : Int) ≤ s.size := by omega
  have h2' : (s.size : Int) ≤ 16 := by omega
  clear h1 h2
  by_cases h3 : (s[0].toNat : Int) < 97
  · have HN := Lib.hid (nameB_no (s := s) (fun h => by have := (h.2.2.1 h0).1; omega))
    go_enter Tryd.func10, Tryd.ntmps10
    go_wp2_with fail
    go_ret
    rw [HN.out]
    exact ⟨rfl, rfl⟩
  by_cases h4 : 122 < (s[0].toNat : Int)
  · have HN := Lib.hid (nameB_no (s := s) (fun h => by have := (h.2.2.1 h0).2; omega))
    have h3' : 97 ≤ (s[0].toNat : Int) := by omega
    clear h3
    go_enter Tryd.func10, Tryd.ntmps10
    go_wp2_with fail
    go_ret
    rw [HN.out]
    exact ⟨rfl, rfl⟩
  have h3' : 97 ≤ (s[0].toNat : Int) := by omega
  have h4' : (s[0].toNat : Int) ≤ 122 := by omega
  clear h3 h4
  go_enter Tryd.func10, Tryd.ntmps10
  go_wp2_with fail
  go_loop [3] (fun i => ∃ k : Nat, k ≤ s.size ∧ i = .int .i64 k ∧ Hid (∀ j (hj : j < s.size), j < k → inName (s[j].toNat : Int))) (fun i => s.size - (intOf i).toNat)
  case atStart => exact ⟨0, by omega, rfl, (show ∀ j (hj : j < s.size), j < 0 → _ from fun j _ h => absurd h (Nat.not_lt_zero j))⟩
  case round =>
    obtain ⟨k, hk, rfl, hH⟩ := hrel
    by_cases hlt : k < s.size
    · have HS : Hid (inName (s[k].toNat : Int) → ∀ j (hj : j < s.size), j < k + 1 → inName (s[j].toNat : Int)) := by
        show _ → _
        intro h j hj hjk
        by_cases e : j = k
        · subst e
          exact h
        · exact hH.out j hj (by omega)
      have HN : Hid (¬ inName (s[k].toNat : Int) → nameB s = false) := by
        show _ → _
        exact fun h => nameB_no fun h2 => h (h2.2.2.2 k hlt)
      rcases byte_case (s[k].toNat : Int) with ⟨c1, c2⟩ | ⟨c1, c2⟩ | c1 | c1 | ⟨c1, c2⟩ | ⟨c1, c2⟩ | c1
      · go_wp2_with fail
        exact ⟨⟨k + 1, by omega, by go_num, HS.out (.inl ⟨c1, c2⟩)⟩, by simp [intOf]; omega⟩
      · go_wp2_with fail
        exact ⟨⟨k + 1, by omega, by go_num, HS.out (.inr (.inl ⟨c1, c2⟩))⟩, by simp [intOf]; omega⟩
      · have hs := HS.out (.inr (.inr c1))
        have HS2 := Lib.hid hs
        have c2 : ((s[k].toNat : Int) == 45) = true := by simpa using c1
        have c3 : (s[k].toNat : Int) < 48 := by omega
        clear hs c1
        go_wp2_with fail
        exact ⟨⟨k + 1, by omega, by go_num, HS2.out⟩, by simp [intOf]; omega⟩
      all_goals
        have HN2 := Lib.hid (HN.out (by unfold inName; omega))
        have c9 : ((s[k].toNat : Int) == 45) = false := by
          simp
          omega
        go_wp2_with fail
        all_goals first
          | (go_ret; rw [HN2.out]; exact ⟨rfl, rfl⟩)
          | (exfalso; simp at *; omega)
    · have HY := Lib.hid (nameB_yes (s := s) ⟨by omega, by omega, fun _ => ⟨h3', h4'⟩, fun j hj => hH.out j hj (by omega)⟩)
      go_wp2_with fail
      go_ret
      rw [HY.out]
      exact ⟨rfl, rfl⟩

end Go.Proofs.YtalbnmekejmnmaaDoor
