/-
  Package names: Number.
-/
import Derived.Test.YtogkmlodcdgegaaDoorNaA
namespace Go.Proofs.YtogkmlodcdgegaaDoor
open Go.RowKit

def digS (s : ByteArray) : Prop := ∀ k (hk : k < s.size), 48 ≤ (s[k].toNat : Int) ∧ (s[k].toNat : Int) ≤ 57
def zeroS (s : ByteArray) : Prop := ∃ h : 0 < s.size, (s[0].toNat : Int) = 48 ∧ 1 < s.size
/-- The value of the first k digits. -/
def valS (s : ByteArray) : Nat → Nat
  | 0 => 0
  | k + 1 => if h : k < s.size then 10 * valS s k + (s[k].toNat - 48) else valS s k
theorem valS_le (s : ByteArray) (a b : Nat) (h : a ≤ b) : valS s a ≤ valS s b := by
  induction b with
  | zero => exact (by omega : a = 0) ▸ Nat.le_refl _
  | succ b ih =>
    by_cases e : a = b + 1
    · subst e
      exact Nat.le_refl _
    · refine Nat.le_trans (ih (by omega)) ?_
      rw [valS]
      split <;> omega
open Classical in
noncomputable def numR (s : ByteArray) : Int × Int := if digS s ∧ 0 < s.size ∧ ¬ zeroS s then (if valS s s.size < 9223372036854775808 then ((valS s s.size : Int), 0) else (0, 2)) else (0, 4)
theorem numR_bad {s : ByteArray} (h : ¬ (digS s ∧ 0 < s.size ∧ ¬ zeroS s)) : numR s = (0, 4) := if_neg h
theorem numR_long {s : ByteArray} (h : digS s ∧ 0 < s.size ∧ ¬ zeroS s) (h2 : ¬ valS s s.size < 9223372036854775808) : numR s = (0, 2) := (if_pos h).trans (if_neg h2)
theorem numR_good {s : ByteArray} (h : digS s ∧ 0 < s.size ∧ ¬ zeroS s) (h2 : valS s s.size < 9223372036854775808) : numR s = ((valS s s.size : Int), 0) := (if_pos h).trans (if_pos h2)
theorem empty_ne (s : ByteArray) (h : 0 < s.size) : s.toList.isEmpty = false := by
  rw [ByteArray.toList_eq, Bool.eq_false_iff]
  intro e
  have e2 : s.data.toList = [] := by simpa using e
  have e3 : s.data.toList.length = 0 := by rw [e2]; rfl
  have e4 : s.size = s.data.toList.length := by simp
  omega
theorem empty_eq (s : ByteArray) (h : ¬ 0 < s.size) : s = ⟨#[]⟩ := by
  apply ByteArray.ext
  exact Array.eq_empty_of_size_eq_zero (by simpa using h)

set_option maxRecDepth 20000 in
set_option maxHeartbeats 1000000 in
theorem Number_any (s : ByteArray) (hm : (s.size : Int) ≤ 4096) (w : World) : Calls Tryd.prog 32 #[.string s] w fun e w' => e = .returned (.tuple #[.int .i64 (numR s).1, .int .i64 (numR s).2]) ∧ w = w' := by
  go_enter Tryd.func32, Tryd.ntmps32
  go_wp2_with fail
  go_loop [10] (fun i => ∃ k : Nat, k ≤ s.size ∧ i = .int .i64 k ∧ Hid (∀ j (hj : j < s.size), j < k → 48 ≤ (s[j].toNat : Int) ∧ (s[j].toNat : Int) ≤ 57)) (fun i => s.size - (intOf i).toNat)
  case atStart => exact ⟨0, by omega, rfl, (show ∀ j (hj : j < s.size), j < 0 → _ from fun j _ h => absurd h (Nat.not_lt_zero j))⟩
  case round =>
    obtain ⟨k, hk, rfl, hH⟩ := hrel
    by_cases hlt : k < s.size
    · have HS : Hid (48 ≤ (s[k].toNat : Int) ∧ (s[k].toNat : Int) ≤ 57 → ∀ j (hj : j < s.size), j < k + 1 → 48 ≤ (s[j].toNat : Int) ∧ (s[j].toNat : Int) ≤ 57) := by
        show _ → _
        intro h j hj hjk
        by_cases e : j = k
        · subst e
          exact h
        · exact hH.out j hj (by omega)
      have HN : Hid (¬ (48 ≤ (s[k].toNat : Int) ∧ (s[k].toNat : Int) ≤ 57) → numR s = (0, 4)) := by
        show _ → _
        exact fun h => numR_bad fun h2 => h (h2.1 k hlt)
      by_cases c1 : (s[k].toNat : Int) < 48
      · have HN2 := Lib.hid (HN.out (by omega))
        clear HN HS
        go_wp2_with fail
        go_ret2
        rw [HN2.out]
        exact ⟨rfl, rfl⟩
      by_cases c2 : 57 < (s[k].toNat : Int)
      · have HN2 := Lib.hid (HN.out (by omega))
        clear HN HS
        have c1' : decide ((s[k].toNat : Int) < 48) = false := by simpa using c1
        clear c1
        go_wp2_with fail
        go_ret2
        rw [HN2.out]
        exact ⟨rfl, rfl⟩
      have c1' : 48 ≤ (s[k].toNat : Int) := by omega
      have c2' : (s[k].toNat : Int) ≤ 57 := by omega
      have HS2 := Lib.hid (HS.out ⟨c1', c2'⟩)
      clear c1 c2 HS HN
      go_wp2_with fail
      exact ⟨⟨k + 1, by omega, by go_num, HS2.out⟩, by simp [intOf]; omega⟩
    · have hdig : digS s := fun j hj => hH.out j hj (by omega)
      clear hH
      by_cases h0 : 0 < s.size
      · have he := empty_ne s h0
        by_cases hz : (s[0].toNat : Int) = 48
        · by_cases h1 : 1 < s.size
          · have HN2 := Lib.hid (numR_bad (s := s) fun h => h.2.2 ⟨h0, hz, h1⟩)
            have hz' : ((s[0].toNat : Int) == 48) = true := by simpa using hz
            have h1' : (1 : Int) < s.size := by omega
            clear hdig hz
            go_wp2_with fail
            go_ret2
            rw [HN2.out]
            exact ⟨rfl, rfl⟩
          · skip
            have hnz : ¬ zeroS s := fun h => h1 h.2.2
            have hz' : ((s[0].toNat : Int) == 48) = true := by simpa using hz
            have h1' : (s.size : Int) ≤ 1 := by omega
            have HD := Lib.hid (And.intro hdig (And.intro h0 hnz))
            clear hdig hz h1 hnz
            go_wp2_with fail
            go_loop [5, 38] (fun n i => ∃ k N : Nat, k ≤ s.size ∧ n = .int .i64 N ∧ i = .int .i64 k ∧ Hid (valS s k = N) ∧ (N : Int) ≤ 9223372036854775807) (fun _ i => s.size - (intOf i).toNat)
            case atStart => exact ⟨0, 0, by omega, rfl, rfl, rfl, by omega⟩
            case round =>
              obtain ⟨k, N, hk, rfl, rfl, hV, hN⟩ := hrel
              have hN0 : (0 : Int) ≤ N := by omega
              by_cases hlt : k < s.size
              · have hd := HD.out.1 k hlt
                have hstep : valS s (k + 1) = 10 * N + (s[k].toNat - 48) := by
                  rw [valS, dif_pos hlt, hV.out]
                have hle := valS_le s (k + 1) s.size (by omega)
                obtain ⟨d, hdd⟩ : ∃ d, s[k].toNat - 48 = d := ⟨_, rfl⟩
                rw [hdd] at hstep
                have hX : (s[k].toNat : Int) = 48 + (d : Int) := by omega
                have hd9 : (d : Int) ≤ 9 := by omega
                by_cases ho : (9223372036854775807 - (d : Int)) / 10 < (N : Int)
                · have HR := Lib.hid (numR_long (s := s) HD.out (by omega))
                  clear hle hstep hV hd hdd
                  go_wp2_with fail
                  go_ret2
                  rw [HR.out]
                  exact ⟨rfl, rfl⟩
                · have ho1 : 10 * (N : Int) + (d : Int) ≤ 9223372036854775807 := by omega
                  have ho2 : 10 * (N : Int) ≤ 9223372036854775807 := by omega
                  have ho3 : decide ((9223372036854775807 - (d : Int)) / 10 < (N : Int)) = false := by simpa using ho
                  have HS := Lib.hid hstep
                  clear hle hstep hV hd hdd ho
                  go_wp2_with fail
                  exact ⟨⟨k + 1, 10 * N + d, by omega, by go_num, by go_num, HS.out, by omega⟩, by simp [intOf]; omega⟩
              · have e : k = s.size := by omega
                subst e
                have HR := Lib.hid (numR_good (s := s) HD.out (by have := hV.out; omega))
                have hV2 := hV.out
                rw [hV2] at HR
                have HR2 := Lib.hid HR.out
                clear HR hV hV2
                go_wp2_with fail
                go_ret2
                rw [HR2.out]
                exact ⟨rfl, rfl⟩
        · skip
          have hnz : ¬ zeroS s := fun h => hz h.2.1
          have hz' : ((s[0].toNat : Int) == 48) = false := by simpa using hz
          have HD := Lib.hid (And.intro hdig (And.intro h0 hnz))
          clear hdig hz hnz
          go_wp2_with fail
          go_loop [5, 38] (fun n i => ∃ k N : Nat, k ≤ s.size ∧ n = .int .i64 N ∧ i = .int .i64 k ∧ Hid (valS s k = N) ∧ (N : Int) ≤ 9223372036854775807) (fun _ i => s.size - (intOf i).toNat)
          case atStart => exact ⟨0, 0, by omega, rfl, rfl, rfl, by omega⟩
          case round =>
            obtain ⟨k, N, hk, rfl, rfl, hV, hN⟩ := hrel
            have hN0 : (0 : Int) ≤ N := by omega
            by_cases hlt : k < s.size
            · have hd := HD.out.1 k hlt
              have hstep : valS s (k + 1) = 10 * N + (s[k].toNat - 48) := by
                rw [valS, dif_pos hlt, hV.out]
              have hle := valS_le s (k + 1) s.size (by omega)
              obtain ⟨d, hdd⟩ : ∃ d, s[k].toNat - 48 = d := ⟨_, rfl⟩
              rw [hdd] at hstep
              have hX : (s[k].toNat : Int) = 48 + (d : Int) := by omega
              have hd9 : (d : Int) ≤ 9 := by omega
              by_cases ho : (9223372036854775807 - (d : Int)) / 10 < (N : Int)
              · have HR := Lib.hid (numR_long (s := s) HD.out (by omega))
                clear hle hstep hV hd hdd
                go_wp2_with fail
                go_ret2
                rw [HR.out]
                exact ⟨rfl, rfl⟩
              · have ho1 : 10 * (N : Int) + (d : Int) ≤ 9223372036854775807 := by omega
                have ho2 : 10 * (N : Int) ≤ 9223372036854775807 := by omega
                have ho3 : decide ((9223372036854775807 - (d : Int)) / 10 < (N : Int)) = false := by simpa using ho
                have HS := Lib.hid hstep
                clear hle hstep hV hd hdd ho
                go_wp2_with fail
                exact ⟨⟨k + 1, 10 * N + d, by omega, by go_num, by go_num, HS.out, by omega⟩, by simp [intOf]; omega⟩
            · have e : k = s.size := by omega
              subst e
              have HR := Lib.hid (numR_good (s := s) HD.out (by have := hV.out; omega))
              have hV2 := hV.out
              rw [hV2] at HR
              have HR2 := Lib.hid HR.out
              clear HR hV hV2
              go_wp2_with fail
              go_ret2
              rw [HR2.out]
              exact ⟨rfl, rfl⟩
      · have HN2 := Lib.hid (numR_bad (s := s) fun h => h0 h.2.1)
        obtain rfl := empty_eq s h0
        clear hdig
        go_wp2_with fail
        go_ret2
        rw [HN2.out]
        exact ⟨rfl, rfl⟩

end Go.Proofs.YtogkmlodcdgegaaDoor
