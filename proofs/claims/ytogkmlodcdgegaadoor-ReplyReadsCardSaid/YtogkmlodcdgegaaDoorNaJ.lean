/-
  Package names: the document's Number.
-/
import Derived.Test.YtogkmlodcdgegaaDoorNaG
namespace Go.Proofs.YtogkmlodcdgegaaDoor
open Go.RowKit

theorem valS_lt (s : ByteArray) (h : digS s) : ∀ k, k ≤ s.size → valS s k < 10 ^ k
  | 0, _ => by simp [valS]
  | k + 1, hk => by
    have h1 := valS_lt s h k (by omega)
    have h2 := h k (by omega)
    rw [valS, dif_pos (by omega), Nat.pow_succ]
    omega
theorem valS_ge (s : ByteArray) (h : digS s) (hz : ¬ zeroS s) : ∀ k, 1 < s.size → k + 1 ≤ s.size → 10 ^ k ≤ valS s (k + 1)
  | 0, h1, _ => by
    have h0 : 0 < s.size := by omega
    have h2 := (h 0 h0).1
    have h3 : ¬ (s[0].toNat : Int) = 48 := fun e => hz ⟨h0, e, h1⟩
    rw [valS, dif_pos h0]
    simp only [Nat.pow_zero, valS]
    omega
  | k + 1, h1, hk => by
    have ih := valS_ge s h hz k h1 (by omega)
    rw [valS, dif_pos (by omega), Nat.pow_succ]
    omega

set_option maxRecDepth 20000 in
set_option maxHeartbeats 1000000 in
theorem RNumber_any (s : ByteArray) (hm : (s.size : Int) ≤ 4096) (w : World) : Calls Tryd.prog 28 #[.string s] w fun e w' => e = .returned (.tuple #[.int .i64 (numR s).1, .int .i64 (numR s).2]) ∧ w = w' := by
  by_cases h0 : 0 < s.size
  · have he := empty_ne s h0
    by_cases hz : (s[0].toNat : Int) = 48
    · by_cases h1 : 1 < s.size
      · have HN2 := Lib.hid (numR_bad (s := s) fun h => h.2.2 ⟨h0, hz, h1⟩)
        have hz' : ((s[0].toNat : Int) == 48) = true := by simpa using hz
        have h1' : (1 : Int) < s.size := by omega
        clear hz
        go_enter Tryd.func28, Tryd.ntmps28
        go_wp2_with fail
        go_ret2
        rw [HN2.out]
        exact ⟨rfl, rfl⟩
      · have HZ : Hid (¬ zeroS s) := fun h => h1 h.2.2
        have hz' : ((s[0].toNat : Int) == 48) = true := by simpa using hz
        have h1' : (s.size : Int) ≤ 1 := by omega
        clear hz h1
        go_enter Tryd.func28, Tryd.ntmps28
        go_wp2_with fail
        go_loop [4] (fun i => ∃ k : Nat, k ≤ s.size ∧ i = .int .i64 k ∧ Hid (∀ j (hj : j < s.size), j < k → 48 ≤ (s[j].toNat : Int) ∧ (s[j].toNat : Int) ≤ 57)) (fun i => s.size - (intOf i).toNat)
        case atStart => exact ⟨0, by omega, rfl, (show ∀ j (hj : j < s.size), j < 0 → _ from fun j _ h => absurd h (Nat.not_lt_zero j))⟩
        case round =>
          obtain ⟨k, hk, rfl, hH⟩ := hrel
          by_cases hlt : k < s.size
          · have HS : Hid (48 ≤ (s[k].toNat : Int) ∧ (s[k].toNat : Int) ≤ 57 → ∀ j (hj : j < s.size), j < k + 1 → 48 ≤ (s[j].toNat : Int) ∧ (s[j].toNat : Int) ≤ 57) := by
              show _ → _
              intro h j hj hjk
              by_cases e : j = k
              · subst e
                exact h
              · exact hH.out j hj (by omega)
            have HN : Hid (¬ (48 ≤ (s[k].toNat : Int) ∧ (s[k].toNat : Int) ≤ 57) → numR s = (0, 4)) := by
              show _ → _
              exact fun h => numR_bad fun h2 => h (h2.1 k hlt)
            by_cases c1 : (s[k].toNat : Int) < 48
            · have HN2 := Lib.hid (HN.out (by omega))
              clear HN HS
              go_wp2_with fail
              go_ret2
              rw [HN2.out]
              exact ⟨rfl, rfl⟩
            by_cases c2 : 57 < (s[k].toNat : Int)
            · have HN2 := Lib.hid (HN.out (by omega))
              clear HN HS
              have c1' : decide ((s[k].toNat : Int) < 48) = false := by simpa using c1
              clear c1
              go_wp2_with fail
              go_ret2
              rw [HN2.out]
              exact ⟨rfl, rfl⟩
            have c1' : 48 ≤ (s[k].toNat : Int) := by omega
            have c2' : (s[k].toNat : Int) ≤ 57 := by omega
            have HS2 := Lib.hid (HS.out ⟨c1', c2'⟩)
            clear c1 c2 HS HN
            go_wp2_with fail
            exact ⟨⟨k + 1, by omega, by go_num, HS2.out⟩, by simp [intOf]; omega⟩
          · have hdig : digS s := fun j hj => hH.out j hj (by omega)
            have HD := Lib.hid (And.intro hdig (And.intro h0 HZ.out))
            clear hdig hH
            go_wp2_with fail
            go_loop [5, 6] (fun n i => ∃ k N : Nat, k ≤ s.size ∧ n = .int .u64 N ∧ i = .int .i64 k ∧ Hid (valS s k = N) ∧ (N : Int) ≤ 9223372036854775807) (fun _ i => s.size - (intOf i).toNat)
            case atStart => exact ⟨0, 0, by omega, rfl, rfl, rfl, by omega⟩
            case round =>
              obtain ⟨k, N, hk, rfl, rfl, hV, hN⟩ := hrel
              have hN0 : (0 : Int) ≤ N := by omega
              by_cases hlt : k < s.size
              · have hd := HD.out.1 k hlt
                have hstep : valS s (k + 1) = 10 * N + (s[k].toNat - 48) := by
                  rw [valS, dif_pos hlt, hV.out]
                have hle := valS_le s (k + 1) s.size (by omega)
                by_cases h18 : k ≤ 18
                · have hlo := valS_lt s HD.out.1 k (by omega)
                  rw [hV.out] at hlo
                  have hpw : 10 ^ k ≤ 10 ^ 18 := Nat.pow_le_pow_right (by omega) h18
                  have hN2 : (N : Int) ≤ 999999999999999999 := by omega
                  have h18' : (k : Int) ≤ 18 := by omega
                  obtain ⟨d, hdd⟩ : ∃ d, s[k].toNat - 48 = d := ⟨_, rfl⟩
                  rw [hdd] at hstep
                  have hX : (s[k].toNat : Int) = 48 + (d : Int) := by omega
                  have hd9 : (d : Int) ≤ 9 := by omega
                  by_cases ho : 9223372036854775807 < (N : Int) * 10 + (d : Int)
                  · have HR := Lib.hid (numR_long (s := s) HD.out (by omega))
                    clear hle hstep hV hd hdd hlo hpw h18
                    go_wp2_with fail
                    go_ret2
                    rw [HR.out]
                    exact ⟨rfl, rfl⟩
                  · have ho1 : (N : Int) * 10 + (d : Int) ≤ 9223372036854775807 := by omega
                    have HS := Lib.hid (hstep.trans (show 10 * N + d = N * 10 + d by omega))
                    clear hle hstep hV hd hdd ho hlo hpw h18
                    go_wp2_with fail
                    exact ⟨⟨k + 1, N * 10 + d, by omega, by go_num, by go_num, HS.out, by omega⟩, by simp [intOf]; omega⟩
                · have hge : 10 ^ 19 ≤ valS s 20 := valS_ge s HD.out.1 HD.out.2.2 19 (by omega) (by omega)
                  have hge2 := valS_le s 20 s.size (by omega)
                  have HR := Lib.hid (numR_long (s := s) HD.out (by omega))
                  have h18' : (18 : Int) < k := by omega
                  clear hle hstep hV hd hge hge2 h18
                  go_wp2_with fail
                  go_ret2
                  rw [HR.out]
                  exact ⟨rfl, rfl⟩
              · have e : k = s.size := by omega
                subst e
                have HR := Lib.hid (numR_good (s := s) HD.out (by have := hV.out; omega))
                have hV2 := hV.out
                rw [hV2] at HR
                have HR2 := Lib.hid HR.out
                clear HR hV hV2
                go_wp2_with fail
                go_ret2
                rw [HR2.out]
                exact ⟨rfl, rfl⟩
    · have HZ : Hid (¬ zeroS s) := fun h => hz h.2.1
      have hz' : ((s[0].toNat : Int) == 48) = false := by simpa using hz
      clear hz
      go_enter Tryd.func28, Tryd.ntmps28
      go_wp2_with fail
      go_loop [4] (fun i => ∃ k : Nat, k ≤ s.size ∧ i = .int .i64 k ∧ Hid (∀ j (hj : j < s.size), j < k → 48 ≤ (s[j].toNat : Int) ∧ (s[j].toNat : Int) ≤ 57)) (fun i => s.size - (intOf i).toNat)
      case atStart => exact ⟨0, by omega, rfl, (show ∀ j (hj : j < s.size), j < 0 → _ from fun j _ h => absurd h (Nat.not_lt_zero j))⟩
      case round =>
        obtain ⟨k, hk, rfl, hH⟩ := hrel
        by_cases hlt : k < s.size
        · have HS : Hid (48 ≤ (s[k].toNat : Int) ∧ (s[k].toNat : Int) ≤ 57 → ∀ j (hj : j < s.size), j < k + 1 → 48 ≤ (s[j].toNat : Int) ∧ (s[j].toNat : Int) ≤ 57) := by
            show _ → _
            intro h j hj hjk
            by_cases e : j = k
            · subst e
              exact h
            · exact hH.out j hj (by omega)
          have HN : Hid (¬ (48 ≤ (s[k].toNat : Int) ∧ (s[k].toNat : Int) ≤ 57) → numR s = (0, 4)) := by
            show _ → _
            exact fun h => numR_bad fun h2 => h (h2.1 k hlt)
          by_cases c1 : (s[k].toNat : Int) < 48
          · have HN2 := Lib.hid (HN.out (by omega))
            clear HN HS
            go_wp2_with fail
            go_ret2
            rw [HN2.out]
            exact ⟨rfl, rfl⟩
          by_cases c2 : 57 < (s[k].toNat : Int)
          · have HN2 := Lib.hid (HN.out (by omega))
            clear HN HS
            have c1' : decide ((s[k].toNat : Int) < 48) = false := by simpa using c1
            clear c1
            go_wp2_with fail
            go_ret2
            rw [HN2.out]
            exact ⟨rfl, rfl⟩
          have c1' : 48 ≤ (s[k].toNat : Int) := by omega
          have c2' : (s[k].toNat : Int) ≤ 57 := by omega
          have HS2 := Lib.hid (HS.out ⟨c1', c2'⟩)
          clear c1 c2 HS HN
          go_wp2_with fail
          exact ⟨⟨k + 1, by omega, by go_num, HS2.out⟩, by simp [intOf]; omega⟩
        · have hdig : digS s := fun j hj => hH.out j hj (by omega)
          have HD := Lib.hid (And.intro hdig (And.intro h0 HZ.out))
          clear hdig hH
          go_wp2_with fail
          go_loop [5, 6] (fun n i => ∃ k N : Nat, k ≤ s.size ∧ n = .int .u64 N ∧ i = .int .i64 k ∧ Hid (valS s k = N) ∧ (N : Int) ≤ 9223372036854775807) (fun _ i => s.size - (intOf i).toNat)
          case atStart => exact ⟨0, 0, by omega, rfl, rfl, rfl, by omega⟩
          case round =>
            obtain ⟨k, N, hk, rfl, rfl, hV, hN⟩ := hrel
            have hN0 : (0 : Int) ≤ N := by omega
            by_cases hlt : k < s.size
            · have hd := HD.out.1 k hlt
              have hstep : valS s (k + 1) = 10 * N + (s[k].toNat - 48) := by
                rw [valS, dif_pos hlt, hV.out]
              have hle := valS_le s (k + 1) s.size (by omega)
              by_cases h18 : k ≤ 18
              · have hlo := valS_lt s HD.out.1 k (by omega)
                rw [hV.out] at hlo
                have hpw : 10 ^ k ≤ 10 ^ 18 := Nat.pow_le_pow_right (by omega) h18
                have hN2 : (N : Int) ≤ 999999999999999999 := by omega
                have h18' : (k : Int) ≤ 18 := by omega
                obtain ⟨d, hdd⟩ : ∃ d, s[k].toNat - 48 = d := ⟨_, rfl⟩
                rw [hdd] at hstep
                have hX : (s[k].toNat : Int) = 48 + (d : Int) := by omega
                have hd9 : (d : Int) ≤ 9 := by omega
                by_cases ho : 9223372036854775807 < (N : Int) * 10 + (d : Int)
                · have HR := Lib.hid (numR_long (s := s) HD.out (by omega))
                  clear hle hstep hV hd hdd hlo hpw h18
                  go_wp2_with fail
                  go_ret2
                  rw [HR.out]
                  exact ⟨rfl, rfl⟩
                · have ho1 : (N : Int) * 10 + (d : Int) ≤ 9223372036854775807 := by omega
                  have HS := Lib.hid (hstep.trans (show 10 * N + d = N * 10 + d by omega))
                  clear hle hstep hV hd hdd ho hlo hpw h18
                  go_wp2_with fail
                  exact ⟨⟨k + 1, N * 10 + d, by omega, by go_num, by go_num, HS.out, by omega⟩, by simp [intOf]; omega⟩
              · have hge : 10 ^ 19 ≤ valS s 20 := valS_ge s HD.out.1 HD.out.2.2 19 (by omega) (by omega)
                have hge2 := valS_le s 20 s.size (by omega)
                have HR := Lib.hid (numR_long (s := s) HD.out (by omega))
                have h18' : (18 : Int) < k := by omega
                clear hle hstep hV hd hge hge2 h18
                go_wp2_with fail
                go_ret2
                rw [HR.out]
                exact ⟨rfl, rfl⟩
            · have e : k = s.size := by omega
              subst e
              have HR := Lib.hid (numR_good (s := s) HD.out (by have := hV.out; omega))
              have hV2 := hV.out
              rw [hV2] at HR
              have HR2 := Lib.hid HR.out
              clear HR hV hV2
              go_wp2_with fail
              go_ret2
              rw [HR2.out]
              exact ⟨rfl, rfl⟩
  · have HN2 := Lib.hid (numR_bad (s := s) fun h => h0 h.2.1)
    obtain rfl := empty_eq s h0
    clear h0
    go_enter Tryd.func28, Tryd.ntmps28
    go_wp2_with fail
    go_ret2
    rw [HN2.out]
    exact ⟨rfl, rfl⟩

end Go.Proofs.YtogkmlodcdgegaaDoor
