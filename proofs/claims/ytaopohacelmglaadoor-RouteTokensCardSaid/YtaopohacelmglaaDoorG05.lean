/-
  Joined texts of this claim's author (each began as a text of its own; each says itself what it holds).
-/
import Derived.Test.YtaopohacelmglaaDoorG04
import Derived.Test.YtaopohacelmglaaDoorG00
import Derived.Test.YtaopohacelmglaaDoorG03
import Derived.Great.BuildSlice
import Derived.Test.YtaopohacelmglaaDoorG02
set_option linter.unusedVariables false
set_option linter.unusedSimpArgs false

/-
  Package names: the document's Number.
-/
namespace Go.Proofs.YtaopohacelmglaaDoor.Nm
open Go.RowKit

theorem valS_lt (s : ByteArray) (h : digS s) : ∀ k, k ≤ s.size → valS s k < 10 ^ k
  | 0, _ => by simp [valS]
  | k + 1, hk => by
    have h1 := valS_lt s h k (by omega)
    have h2 := h k (by omega)
    rw [valS, dif_pos (by omega), Nat.pow_succ]
    omega
theorem valS_ge (s : ByteArray) (h : digS s) (hz : ¬ zeroS s) : ∀ k, 1 < s.size → k + 1 ≤ s.size → 10 ^ k ≤ valS s (k + 1)
  | 0, h1, _ => by
    have h0 : 0 < s.size := by omega
    have h2 := (h 0 h0).1
    have h3 : ¬ (s[0].toNat : Int) = 48 := fun e => hz ⟨h0, e, h1⟩
    rw [valS, dif_pos h0]
    simp only [Nat.pow_zero, valS]
    omega
  | k + 1, h1, hk => by
    have ih := valS_ge s h hz k h1 (by omega)
    rw [valS, dif_pos (by omega), Nat.pow_succ]
    omega

set_option maxRecDepth 20000 in
set_option maxHeartbeats 1000000 in
theorem RNumber_any (s : ByteArray) (hm : (s.size : Int) ≤ 4096) (w : World) : Calls Tryd.prog 51 #[.string s] w fun e w' => e = .returned (.tuple #[.int .i64 (numR s).1, .int .i64 (numR s).2]) ∧ w = w' := by
  by_cases h0 : 0 < s.size
  · have he := empty_ne s h0
    by_cases hz : (s[0].toNat : Int) = 48
    · by_cases h1 : 1 < s.size
      · have HN2 := Lib.hid (numR_bad (s := s) fun h => h.2.2 ⟨h0, hz, h1⟩)
        have hz' : ((s[0].toNat : Int) == 48) = true := by simpa using hz
        have h1' : (1 : Int) < s.size := by omega
        clear hz
        go_enter Tryd.func51, Tryd.ntmps51
        go_wp2_with fail
        go_ret2
        rw [HN2.out]
        exact ⟨rfl, rfl⟩
      · have HZ : Hid (¬ zeroS s) := fun h => h1 h.2.2
        have hz' : ((s[0].toNat : Int) == 48) = true := by simpa using hz
        have h1' : (s.size : Int) ≤ 1 := by omega
        clear hz h1
        go_enter Tryd.func51, Tryd.ntmps51
        go_wp2_with fail
        go_loop [4] (fun i => ∃ k : Nat, k ≤ s.size ∧ i = .int .i64 k ∧ Hid (∀ j (hj : j < s.size), j < k → 48 ≤ (s[j].toNat : Int) ∧ (s[j].toNat : Int) ≤ 57)) (fun i => s.size - (intOf i).toNat)
        case atStart => exact ⟨0, by omega, rfl, (show ∀ j (hj : j < s.size), j < 0 → _ from fun j _ h => absurd h (Nat.not_lt_zero j))⟩
        case round =>
          obtain ⟨k, hk, rfl, hH⟩ := hrel
          by_cases hlt : k < s.size
          · have HS : Hid (48 ≤ (s[k].toNat : Int) ∧ (s[k].toNat : Int) ≤ 57 → ∀ j (hj : j < s.size), j < k + 1 → 48 ≤ (s[j].toNat : Int) ∧ (s[j].toNat : Int) ≤ 57) := by
              show _ → _
              intro h j hj hjk
              by_cases e : j = k
              · subst e
                exact h
              · exact hH.out j hj (by omega)
            have HN : Hid (¬ (48 ≤ (s[k].toNat : Int) ∧ (s[k].toNat : Int) ≤ 57) → numR s = (0, 4)) := by
              show _ → _
              exact fun h => numR_bad fun h2 => h (h2.1 k hlt)
            by_cases c1 : (s[k].toNat : Int) < 48
            · have HN2 := Lib.hid (HN.out (by omega))
              clear HN HS
              go_wp2_with fail
              go_ret2
              rw [HN2.out]
              exact ⟨rfl, rfl⟩
            by_cases c2 : 57 < (s[k].toNat : Int)
            · have HN2 := Lib.hid (HN.out (by omega))
              clear HN HS
              have c1' : decide ((s[k].toNat : Int) < 48) = false := by simpa using c1
              clear c1
              go_wp2_with fail
              go_ret2
              rw [HN2.out]
              exact ⟨rfl, rfl⟩
            have c1' : 48 ≤ (s[k].toNat : Int) := by omega
            have c2' : (s[k].toNat : Int) ≤ 57 := by omega
            have HS2 := Lib.hid (HS.out ⟨c1', c2'⟩)
            clear c1 c2 HS HN
            go_wp2_with fail
            exact ⟨⟨k + 1, by omega, by go_num, HS2.out⟩, by simp [intOf]; omega⟩
          · have hdig : digS s := fun j hj => hH.out j hj (by omega)
            have HD := Lib.hid (And.intro hdig (And.intro h0 HZ.out))
            clear hdig hH
            go_wp2_with fail
            go_loop [5, 6] (fun n i => ∃ k N : Nat, k ≤ s.size ∧ n = .int .u64 N ∧ i = .int .i64 k ∧ Hid (valS s k = N) ∧ (N : Int) ≤ 9223372036854775807) (fun _ i => s.size - (intOf i).toNat)
            case atStart => exact ⟨0, 0, by omega, rfl, rfl, rfl, by omega⟩
            case round =>
              obtain ⟨k, N, hk, rfl, rfl, hV, hN⟩ := hrel
              have hN0 : (0 : Int) ≤ N := by omega
              by_cases hlt : k < s.size
              · have hd := HD.out.1 k hlt
                have hstep : valS s (k + 1) = 10 * N + (s[k].toNat - 48) := by
                  rw [valS, dif_pos hlt, hV.out]
                have hle := valS_le s (k + 1) s.size (by omega)
                by_cases h18 : k ≤ 18
                · have hlo := valS_lt s HD.out.1 k (by omega)
                  rw [hV.out] at hlo
                  have hpw : 10 ^ k ≤ 10 ^ 18 := Nat.pow_le_pow_right (by omega) h18
                  have hN2 : (N : Int) ≤ 999999999999999999 := by omega
                  have h18' : (k : Int) ≤ 18 := by omega
                  obtain ⟨d, hdd⟩ : ∃ d, s[k].toNat - 48 = d := ⟨_, rfl⟩
                  rw [hdd] at hstep
                  have hX : (s[k].toNat : Int) = 48 + (d : Int) := by omega
                  have hd9 : (d : Int) ≤ 9 := by omega
                  by_cases ho : 9223372036854775807 < (N : Int) * 10 + (d : Int)
                  · have HR := Lib.hid (numR_long (s := s) HD.out (by omega))
                    clear hle hstep hV hd hdd hlo hpw h18
                    go_wp2_with fail
                    go_ret2
                    rw [HR.out]
                    exact ⟨rfl, rfl⟩
                  · have ho1 : (N : Int) * 10 + (d : Int) ≤ 9223372036854775807 := by omega
                    have HS := Lib.hid (hstep.trans (show 10 * N + d = N * 10 + d by omega))
                    clear hle hstep hV hd hdd ho hlo hpw h18
                    go_wp2_with fail
                    exact ⟨⟨k + 1, N * 10 + d, by omega, by go_num, by go_num, HS.out, by omega⟩, by simp [intOf]; omega⟩
                · have hge : 10 ^ 19 ≤ valS s 20 := valS_ge s HD.out.1 HD.out.2.2 19 (by omega) (by omega)
                  have hge2 := valS_le s 20 s.size (by omega)
                  have HR := Lib.hid (numR_long (s := s) HD.out (by omega))
                  have h18' : (18 : Int) < k := by omega
                  clear hle hstep hV hd hge hge2 h18
                  go_wp2_with fail
                  go_ret2
                  rw [HR.out]
                  exact ⟨rfl, rfl⟩
              · have e : k = s.size := by omega
                subst e
                have HR := Lib.hid (numR_good (s := s) HD.out (by have := hV.out; omega))
                have hV2 := hV.out
                rw [hV2] at HR
                have HR2 := Lib.hid HR.out
                clear HR hV hV2
                go_wp2_with fail
                go_ret2
                rw [HR2.out]
                exact ⟨rfl, rfl⟩
    · have HZ : Hid (¬ zeroS s) := fun h => hz h.2.1
      have hz' : ((s[0].toNat : Int) == 48) = false := by simpa using hz
      clear hz
      go_enter Tryd.func51, Tryd.ntmps51
      go_wp2_with fail
      go_loop [4] (fun i => ∃ k : Nat, k ≤ s.size ∧ i = .int .i64 k ∧ Hid (∀ j (hj : j < s.size), j < k → 48 ≤ (s[j].toNat : Int) ∧ (s[j].toNat : Int) ≤ 57)) (fun i => s.size - (intOf i).toNat)
      case atStart => exact ⟨0, by omega, rfl, (show ∀ j (hj : j < s.size), j < 0 → _ from fun j _ h => absurd h (Nat.not_lt_zero j))⟩
      case round =>
        obtain ⟨k, hk, rfl, hH⟩ := hrel
        by_cases hlt : k < s.size
        · have HS : Hid (48 ≤ (s[k].toNat : Int) ∧ (s[k].toNat : Int) ≤ 57 → ∀ j (hj : j < s.size), j < k + 1 → 48 ≤ (s[j].toNat : Int) ∧ (s[j].toNat : Int) ≤ 57) := by
            show _ → _
            intro h j hj hjk
            by_cases e : j = k
            · subst e
              exact h
            · exact hH.out j hj (by omega)
          have HN : Hid (¬ (48 ≤ (s[k].toNat : Int) ∧ (s[k].toNat : Int) ≤ 57) → numR s = (0, 4)) := by
            show _ → _
            exact fun h => numR_bad fun h2 => h (h2.1 k hlt)
          by_cases c1 : (s[k].toNat : Int) < 48
          · have HN2 := Lib.hid (HN.out (by omega))
            clear HN HS
            go_wp2_with fail
            go_ret2
            rw [HN2.out]
            exact ⟨rfl, rfl⟩
          by_cases c2 : 57 < (s[k].toNat : Int)
          · have HN2 := Lib.hid (HN.out (by omega))
            clear HN HS
            have c1' : decide ((s[k].toNat : Int) < 48) = false := by simpa using c1
            clear c1
            go_wp2_with fail
            go_ret2
            rw [HN2.out]
            exact ⟨rfl, rfl⟩
          have c1' : 48 ≤ (s[k].toNat : Int) := by omega
          have c2' : (s[k].toNat : Int) ≤ 57 := by omega
          have HS2 := Lib.hid (HS.out ⟨c1', c2'⟩)
          clear c1 c2 HS HN
          go_wp2_with fail
          exact ⟨⟨k + 1, by omega, by go_num, HS2.out⟩, by simp [intOf]; omega⟩
        · have hdig : digS s := fun j hj => hH.out j hj (by omega)
          have HD := Lib.hid (And.intro hdig (And.intro h0 HZ.out))
          clear hdig hH
          go_wp2_with fail
          go_loop [5, 6] (fun n i => ∃ k N : Nat, k ≤ s.size ∧ n = .int .u64 N ∧ i = .int .i64 k ∧ Hid (valS s k = N) ∧ (N : Int) ≤ 9223372036854775807) (fun _ i => s.size - (intOf i).toNat)
          case atStart => exact ⟨0, 0, by omega, rfl, rfl, rfl, by omega⟩
          case round =>
            obtain ⟨k, N, hk, rfl, rfl, hV, hN⟩ := hrel
            have hN0 : (0 : Int) ≤ N := by omega
            by_cases hlt : k < s.size
            · have hd := HD.out.1 k hlt
              have hstep : valS s (k + 1) = 10 * N + (s[k].toNat - 48) := by
                rw [valS, dif_pos hlt, hV.out]
              have hle := valS_le s (k + 1) s.size (by omega)
              by_cases h18 : k ≤ 18
              · have hlo := valS_lt s HD.out.1 k (by omega)
                rw [hV.out] at hlo
                have hpw : 10 ^ k ≤ 10 ^ 18 := Nat.pow_le_pow_right (by omega) h18
                have hN2 : (N : Int) ≤ 999999999999999999 := by omega
                have h18' : (k : Int) ≤ 18 := by omega
                obtain ⟨d, hdd⟩ : ∃ d, s[k].toNat - 48 = d := ⟨_, rfl⟩
                rw [hdd] at hstep
                have hX : (s[k].toNat : Int) = 48 + (d : Int) := by omega
                have hd9 : (d : Int) ≤ 9 := by omega
                by_cases ho : 9223372036854775807 < (N : Int) * 10 + (d : Int)
                · have HR := Lib.hid (numR_long (s := s) HD.out (by omega))
                  clear hle hstep hV hd hdd hlo hpw h18
                  go_wp2_with fail
                  go_ret2
                  rw [HR.out]
                  exact ⟨rfl, rfl⟩
                · have ho1 : (N : Int) * 10 + (d : Int) ≤ 9223372036854775807 := by omega
                  have HS := Lib.hid (hstep.trans (show 10 * N + d = N * 10 + d by omega))
                  clear hle hstep hV hd hdd ho hlo hpw h18
                  go_wp2_with fail
                  exact ⟨⟨k + 1, N * 10 + d, by omega, by go_num, by go_num, HS.out, by omega⟩, by simp [intOf]; omega⟩
              · have hge : 10 ^ 19 ≤ valS s 20 := valS_ge s HD.out.1 HD.out.2.2 19 (by omega) (by omega)
                have hge2 := valS_le s 20 s.size (by omega)
                have HR := Lib.hid (numR_long (s := s) HD.out (by omega))
                have h18' : (18 : Int) < k := by omega
                clear hle hstep hV hd hge hge2 h18
                go_wp2_with fail
                go_ret2
                rw [HR.out]
                exact ⟨rfl, rfl⟩
            · have e : k = s.size := by omega
              subst e
              have HR := Lib.hid (numR_good (s := s) HD.out (by have := hV.out; omega))
              have hV2 := hV.out
              rw [hV2] at HR
              have HR2 := Lib.hid HR.out
              clear HR hV hV2
              go_wp2_with fail
              go_ret2
              rw [HR2.out]
              exact ⟨rfl, rfl⟩
  · have HN2 := Lib.hid (numR_bad (s := s) fun h => h0 h.2.1)
    obtain rfl := empty_eq s h0
    clear h0
    go_enter Tryd.func51, Tryd.ntmps51
    go_wp2_with fail
    go_ret2
    rw [HN2.out]
    exact ⟨rfl, rfl⟩

end Go.Proofs.YtaopohacelmglaaDoor.Nm

/-
  Package rights and the document's answer to it: words of small sets.
-/
namespace Go.Proofs.YtaopohacelmglaaDoor.Rt
open Go.RowKit

/-- How a set below 16 is written as a number, and as a word. -/
def numL : Nat → List UInt8
  | 0 => [48] | 1 => [49] | 2 => [50] | 3 => [51] | 4 => [52] | 5 => [53] | 6 => [54] | 7 => [55] | 8 => [56] | 9 => [57]
  | 10 => [49, 48] | 11 => [49, 49] | 12 => [49, 50] | 13 => [49, 51] | 14 => [49, 52] | _ => [49, 53]
def wordL : Nat → List UInt8
  | 1 => [114, 101, 97, 100]
  | 3 => [97, 100, 100]
  | 7 => [102, 117, 108, 108]
  | 15 => [114, 117, 108, 101]
  | n => numL n
theorem case16 {k : Nat} (h : k < 16) : k = 0 ∨ k = 1 ∨ k = 2 ∨ k = 3 ∨ k = 4 ∨ k = 5 ∨ k = 6 ∨ k = 7 ∨ k = 8 ∨ k = 9 ∨ k = 10 ∨ k = 11 ∨ k = 12 ∨ k = 13 ∨ k = 14 ∨ k = 15 := by omega

end Go.Proofs.YtaopohacelmglaaDoor.Rt

/-
  Package rights: Word and Parse; strconv's numbers below 16.
-/
namespace Go.Proofs.YtaopohacelmglaaDoor.Rt
open Go.RowKit

set_option maxRecDepth 100000 in
set_option maxHeartbeats 4000000 in
theorem small_16 {k : Nat} (h : k < 16) (w : World) : Calls Tryd.prog 92 #[.int .i64 (k : Int)] w fun e w' => e = .returned (.string ⟨(numL k).toArray⟩) ∧ w = w' := by
  rcases case16 h with rfl | rfl | rfl | rfl | rfl | rfl | rfl | rfl | rfl | rfl | rfl | rfl | rfl | rfl | rfl | rfl
  all_goals
    go_enter Tryd.func92, Tryd.ntmps92
    go_wp2_with fail
    go_ret
    exact ⟨rfl, rfl⟩
theorem FormatInt_16 {k : Nat} (h : k < 16) (w : World) : Calls Tryd.prog 86 #[.int .i64 (k : Int), .int .i64 10] w fun e w' => e = .returned (.string ⟨(numL k).toArray⟩) ∧ w = w' := by
  have hk : (k : Int) < 100 := by omega
  have hk0 : (0 : Int) ≤ k := by omega
  go_enter Tryd.func86, Tryd.ntmps86
  go_wp2_with (go_at_call 92; refine (small_16 h _).mono ?_; rintro e w1 ⟨rfl, rfl⟩)
  go_ret
  exact ⟨rfl, rfl⟩
theorem Itoa2_16 {k : Nat} (h : k < 16) (w : World) : Calls Tryd.prog 76 #[.int .i64 (k : Int)] w fun e w' => e = .returned (.string ⟨(numL k).toArray⟩) ∧ w = w' := by
  go_enter Tryd.func76, Tryd.ntmps76
  go_wp2_with (go_at_call 86; refine (FormatInt_16 h _).mono ?_; rintro e w1 ⟨rfl, rfl⟩)
  go_ret
  exact ⟨rfl, rfl⟩
theorem Itoa_16 {k : Nat} (h : k < 16) (w : World) : Calls Tryd.prog 65 #[.int .i64 (k : Int)] w fun e w' => e = .returned (.string ⟨(numL k).toArray⟩) ∧ w = w' := by
  go_enter Tryd.func65, Tryd.ntmps65
  go_wp2_with (go_at_call 76; refine (Itoa2_16 h _).mono ?_; rintro e w1 ⟨rfl, rfl⟩)
  go_ret
  exact ⟨rfl, rfl⟩
theorem Word_16 {k : Nat} (h : k < 16) (w : World) : Calls Tryd.prog 64 #[.int .u8 (k : Int)] w fun e w' => e = .returned (.string ⟨(wordL k).toArray⟩) ∧ w = w' := by
  have HI := Lib.hid (fun w => Itoa_16 h w)
  rcases case16 h with rfl | rfl | rfl | rfl | rfl | rfl | rfl | rfl | rfl | rfl | rfl | rfl | rfl | rfl | rfl | rfl
  all_goals
    go_enter Tryd.func64, Tryd.ntmps64
    go_wp2_with (go_at_call 65; refine (HI.out _).mono ?_; rintro e w1 ⟨rfl, rfl⟩)
    go_ret
    exact ⟨rfl, rfl⟩

/-- The first set from k on that is written so. -/
def parseP (S : List UInt8) : Nat → Nat → Nat × Int
  | 0, _ => (0, 4)
  | f + 1, k => if S = wordL k ∨ S = numL k then (k, 0) else parseP S f (k + 1)
theorem parse_step {S : List UInt8} {k : Nat} (h : k < 16) : parseP S (16 - k) k = if S = wordL k ∨ S = numL k then (k, 0) else parseP S (16 - (k + 1)) (k + 1) := by
  obtain ⟨f, hf⟩ : ∃ f, 16 - k = f + 1 := ⟨15 - k, by omega⟩
  have : 16 - (k + 1) = f := by omega
  rw [hf, this, parseP]

set_option maxHeartbeats 1000000 in
theorem Parse_any (S : List UInt8) (w : World) : Calls Tryd.prog 45 #[.string ⟨S.toArray⟩] w fun e w' => e = .returned (.tuple #[.int .u8 (parseP S 16 0).1, .int .i64 (parseP S 16 0).2]) ∧ w = w' := by
  go_enter Tryd.func45, Tryd.ntmps45
  go_wp2_with fail
  go_loop [5] (fun i => ∃ k : Nat, k ≤ 16 ∧ i = .int .u8 k ∧ Hid (parseP S 16 0 = parseP S (16 - k) k)) (fun i => 16 - (intOf i).toNat)
  case atStart => exact ⟨0, by omega, rfl, rfl⟩
  case round =>
    obtain ⟨k, hk, rfl, hH⟩ := hrel
    by_cases hlt : k < 16
    · have HW := Lib.hid (fun w => Word_16 hlt w)
      have HI := Lib.hid (fun w => Itoa_16 hlt w)
      have HS := Lib.hid (parse_step (S := S) hlt)
      obtain ⟨Wd, hWd⟩ : ∃ Wd, wordL k = Wd := ⟨_, rfl⟩
      obtain ⟨Nm, hNm⟩ : ∃ Nm, numL k = Nm := ⟨_, rfl⟩
      rw [hWd] at HW HS
      rw [hNm] at HI HS
      clear hWd hNm
      have hk15 : (k : Int) ≤ 15 := by omega
      by_cases h1 : S = Wd
      · have h1b : (S == Wd) = true := by simpa using h1
        have HR := Lib.hid (HS.out.trans (if_pos (.inl h1)))
        clear h1
        go_wp2_with (go_at_call 64; refine (HW.out _).mono ?_; rintro e w1 ⟨rfl, rfl⟩)
        go_ret2
        rw [hH.out, HR.out]
        exact ⟨rfl, rfl⟩
      · have h1b : (S == Wd) = false := by simpa using h1
        by_cases h2 : S = Nm
        · have h2b : (S == Nm) = true := by simpa using h2
          have HR := Lib.hid (HS.out.trans (if_pos (.inr h2)))
          clear h1 h2
          go_wp2_with (first
            | (go_at_call 64; refine (HW.out _).mono ?_; rintro e w1 ⟨rfl, rfl⟩)
            | (go_at_call 65; refine (HI.out _).mono ?_; rintro e w1 ⟨rfl, rfl⟩))
          go_ret2
          rw [hH.out, HR.out]
          exact ⟨rfl, rfl⟩
        · have h2b : (S == Nm) = false := by simpa using h2
          have HR := Lib.hid (HS.out.trans (if_neg (by intro h; rcases h with h | h; exact h1 h; exact h2 h)))
          clear h1 h2
          go_wp2_with (first
            | (go_at_call 64; refine (HW.out _).mono ?_; rintro e w1 ⟨rfl, rfl⟩)
            | (go_at_call 65; refine (HI.out _).mono ?_; rintro e w1 ⟨rfl, rfl⟩))
          refine ⟨⟨k + 1, by omega, by go_num, ?_⟩, by simp [intOf]; omega⟩
          show _ = _
          rw [hH.out, HR.out]
    · obtain rfl : k = 16 := by omega
      go_wp2_with fail
      go_ret2
      rw [hH.out]
      exact ⟨rfl, rfl⟩

end Go.Proofs.YtaopohacelmglaaDoor.Rt

/-
  The document's Print: numbers in decimal.
-/
namespace Go.Proofs.YtaopohacelmglaaDoor
open Go.RowKit

def dgt (d : Nat) : UInt8 := UInt8.ofNat (48 + d)
theorem cat1 (x : UInt8) (T : List UInt8) : (⟨#[x]⟩ : ByteArray) ++ ⟨T.toArray⟩ = ⟨(x :: T).toArray⟩ := by
  apply ByteArray.ext
  apply Array.ext'
  simp
/-- A number's decimal digits. -/
def decL (v : Nat) : List UInt8 := if v < 10 then [dgt v] else decL (v / 10) ++ [dgt (v % 10)]
termination_by v
decreasing_by omega
theorem decL_small (v : Nat) (h : v < 10) : decL v = [dgt v] := by rw [decL, if_pos h]
theorem decL_big (v : Nat) (h : 10 ≤ v) : decL v = decL (v / 10) ++ [dgt (v % 10)] := by rw [decL, if_neg (by omega)]
def hexDigits : ByteArray := ⟨#[48, 49, 50, 51, 52, 53, 54, 55, 56, 57, 97, 98, 99, 100, 101, 102]⟩
theorem run_digit0 (W : World) : (Instr.sliceAt 9 (.string ⟨#[48, 49, 50, 51, 52, 53, 54, 55, 56, 57, 97, 98, 99, 100, 101, 102]⟩) (some (.int .i64 0)) (some (.int .i64 1)) none).run Tryd.prog W = .ok (.string ⟨#[48]⟩) W := by kernel_rfl
theorem run_digit1 (W : World) : (Instr.sliceAt 9 (.string ⟨#[48, 49, 50, 51, 52, 53, 54, 55, 56, 57, 97, 98, 99, 100, 101, 102]⟩) (some (.int .i64 1)) (some (.int .i64 2)) none).run Tryd.prog W = .ok (.string ⟨#[49]⟩) W := by kernel_rfl
theorem run_digit2 (W : World) : (Instr.sliceAt 9 (.string ⟨#[48, 49, 50, 51, 52, 53, 54, 55, 56, 57, 97, 98, 99, 100, 101, 102]⟩) (some (.int .i64 2)) (some (.int .i64 3)) none).run Tryd.prog W = .ok (.string ⟨#[50]⟩) W := by kernel_rfl
theorem run_digit3 (W : World) : (Instr.sliceAt 9 (.string ⟨#[48, 49, 50, 51, 52, 53, 54, 55, 56, 57, 97, 98, 99, 100, 101, 102]⟩) (some (.int .i64 3)) (some (.int .i64 4)) none).run Tryd.prog W = .ok (.string ⟨#[51]⟩) W := by kernel_rfl
theorem run_digit4 (W : World) : (Instr.sliceAt 9 (.string ⟨#[48, 49, 50, 51, 52, 53, 54, 55, 56, 57, 97, 98, 99, 100, 101, 102]⟩) (some (.int .i64 4)) (some (.int .i64 5)) none).run Tryd.prog W = .ok (.string ⟨#[52]⟩) W := by kernel_rfl
theorem run_digit5 (W : World) : (Instr.sliceAt 9 (.string ⟨#[48, 49, 50, 51, 52, 53, 54, 55, 56, 57, 97, 98, 99, 100, 101, 102]⟩) (some (.int .i64 5)) (some (.int .i64 6)) none).run Tryd.prog W = .ok (.string ⟨#[53]⟩) W := by kernel_rfl
theorem run_digit6 (W : World) : (Instr.sliceAt 9 (.string ⟨#[48, 49, 50, 51, 52, 53, 54, 55, 56, 57, 97, 98, 99, 100, 101, 102]⟩) (some (.int .i64 6)) (some (.int .i64 7)) none).run Tryd.prog W = .ok (.string ⟨#[54]⟩) W := by kernel_rfl
theorem run_digit7 (W : World) : (Instr.sliceAt 9 (.string ⟨#[48, 49, 50, 51, 52, 53, 54, 55, 56, 57, 97, 98, 99, 100, 101, 102]⟩) (some (.int .i64 7)) (some (.int .i64 8)) none).run Tryd.prog W = .ok (.string ⟨#[55]⟩) W := by kernel_rfl
theorem run_digit8 (W : World) : (Instr.sliceAt 9 (.string ⟨#[48, 49, 50, 51, 52, 53, 54, 55, 56, 57, 97, 98, 99, 100, 101, 102]⟩) (some (.int .i64 8)) (some (.int .i64 9)) none).run Tryd.prog W = .ok (.string ⟨#[56]⟩) W := by kernel_rfl
theorem run_digit9 (W : World) : (Instr.sliceAt 9 (.string ⟨#[48, 49, 50, 51, 52, 53, 54, 55, 56, 57, 97, 98, 99, 100, 101, 102]⟩) (some (.int .i64 9)) (some (.int .i64 10)) none).run Tryd.prog W = .ok (.string ⟨#[57]⟩) W := by kernel_rfl
theorem run_digit (d : Nat) (hd : d < 10) (W : World) : (Instr.sliceAt 9 (.string ⟨#[48, 49, 50, 51, 52, 53, 54, 55, 56, 57, 97, 98, 99, 100, 101, 102]⟩) (some (.int .i64 (d : Int))) (some (.int .i64 ((d : Int) + 1))) none).run Tryd.prog W = .ok (.string ⟨[dgt d].toArray⟩) W := by
  have h : d = 0 ∨ d = 1 ∨ d = 2 ∨ d = 3 ∨ d = 4 ∨ d = 5 ∨ d = 6 ∨ d = 7 ∨ d = 8 ∨ d = 9 := by omega
  rcases h with rfl | rfl | rfl | rfl | rfl | rfl | rfl | rfl | rfl | rfl
  · exact run_digit0 W
  · exact run_digit1 W
  · exact run_digit2 W
  · exact run_digit3 W
  · exact run_digit4 W
  · exact run_digit5 W
  · exact run_digit6 W
  · exact run_digit7 W
  · exact run_digit8 W
  · exact run_digit9 W

set_option maxRecDepth 20000 in
set_option maxHeartbeats 2000000 in
theorem Print_nonneg (v : Nat) (w : World) (hv : (v : Int) ≤ 9223372036854775806) :
    Calls Tryd.prog 77 #[.int .i64 (v : Int)] w fun e w' => e = .returned (.string ⟨(decL v).toArray⟩) ∧ w = w' := by
  have hv0 : (0 : Int) ≤ v := by omega
  go_enter Tryd.func77, Tryd.ntmps77
  go_wp2_with fail
  go_loop [0, 3, 5, 6] (fun n s i _ => ∃ (m j : Nat) (T : List UInt8), n = .int .i64 m ∧ s = .string ⟨T.toArray⟩ ∧ i = .int .i64 j ∧ j + m ≤ v + 1 ∧ T.length ≤ j ∧ Hid ((j = 0 ∧ m = v ∧ T = []) ∨ (0 < j ∧ decL v = if m = 0 then T else decL m ++ T))) (fun n _ i _ => (intOf n).toNat + (1 - (intOf i).toNat))
  case atStart => exact ⟨v, 0, [], rfl, rfl, rfl, by omega, by simp, .inl ⟨rfl, rfl, rfl⟩⟩
  case round =>
    obtain ⟨m, j, T, rfl, rfl, rfl, hjm, hTj, hH⟩ := hrel
    by_cases hgo : j = 0 ∨ m ≠ 0
    · have hm : (m : Int) ≤ 9223372036854775806 := by
        rcases hH.out with ⟨h1, h2, _⟩ | ⟨h1, _⟩ <;> omega
      obtain ⟨d, hd⟩ : ∃ d, m % 10 = d := ⟨_, rfl⟩
      obtain ⟨q, hq⟩ : ∃ q, m / 10 = q := ⟨_, rfl⟩
      have hmod : (m : Int) % 10 = (d : Int) := by omega
      have hdiv : (m : Int) / 10 = (q : Int) := by omega
      have hd10 : d < 10 := by omega
      have hd10' : (d : Int) ≤ 9 := by omega
      have hrun := run_digit d hd10
      have hnext : decL v = if q = 0 then dgt d :: T else decL q ++ (dgt d :: T) := by
        have hm2 : decL m = if q = 0 then [dgt d] else decL q ++ [dgt d] := by
          by_cases h10 : m < 10
          · rw [if_pos (by omega), decL_small m h10]
            congr 2
            omega
          · rw [if_neg (by omega), decL_big m (by omega), hq, hd]
        rcases hH.out with ⟨_, h2, h3⟩ | ⟨h1, h2⟩
        · subst h2 h3
          rw [hm2]
        · rw [h2, if_neg (by omega), hm2]
          split <;> simp
      have HNX := Lib.hid hnext
      have HQ := Lib.hid hq
      have hq2 : j + 1 + q ≤ v + 1 := by
        rcases hH.out with ⟨h1, h2, _⟩ | ⟨h1, _⟩ <;> omega
      have hq3 : q + (1 - (j + 1)) < m + (1 - j) := by omega
      clear hnext hd hq hH
      have hj2 : (j : Int) ≤ 9223372036854775806 := by omega
      have hTl : ¬ (9223372036854775807 < 1 + T.length) := by omega
      have fin : ∃ (m' j' : Nat) (T' : List UInt8), Value.int .i64 (q : Int) = .int .i64 m' ∧ Value.string (⟨#[dgt d]⟩ ++ ⟨T.toArray⟩) = .string ⟨T'.toArray⟩ ∧ Value.int .i64 ((j : Int) + 1) = .int .i64 j' ∧ j' + m' ≤ v + 1 ∧ T'.length ≤ j' ∧ Hid ((j' = 0 ∧ m' = v ∧ T' = []) ∨ (0 < j' ∧ decL v = if m' = 0 then T' else decL m' ++ T')) :=
        ⟨q, j + 1, dgt d :: T, rfl, by rw [cat1], by go_num, by omega, by simp; omega, .inr ⟨by omega, HNX.out⟩⟩
      have Fin := Lib.hid fin
      clear fin hTj hjm hq2
      by_cases hj : j = 0
      · subst hj
        go_wp2_with fail
        refine ⟨Fin.out, ?_⟩
        simp [intOf]
        omega
      · have hj0 : ((j : Int) == 0) = false := by simpa using hj
        have hm0 : ((m : Int) != 0) = true := by
          simp
          omega
        clear hj hgo
        go_wp2_with fail
        refine ⟨Fin.out, ?_⟩
        simp [intOf]
        omega
    · obtain rfl : m = 0 := by omega
      have hj1 : ((j : Int) == 0) = false := by
        simp
        omega
      have hF : decL v = T := by
        rcases hH.out with ⟨h1, _⟩ | ⟨_, h2⟩
        · omega
        · rw [h2, if_pos rfl]
      have HF := Lib.hid hF
      clear hF hH hgo hjm hTj
      go_wp2_with fail
      go_ret
      rw [HF.out]
      exact ⟨rfl, rfl⟩

end Go.Proofs.YtaopohacelmglaaDoor

/-
  Package rights: the document's Word and Parse; bits; needs; begun.
-/
namespace Go.Proofs.YtaopohacelmglaaDoor.Rt
open Go.RowKit

theorem dec_16 {k : Nat} (h : k < 16) : decL k = numL k := by
  rcases case16 h with rfl | rfl | rfl | rfl | rfl | rfl | rfl | rfl | rfl | rfl | rfl | rfl | rfl | rfl | rfl | rfl
  all_goals first
    | (rw [decL_small _ (by omega)]; rfl)
    | (rw [decL_big _ (by omega), decL_small _ (by omega)]; rfl)
theorem Print_16 {k : Nat} (h : k < 16) (w : World) : Calls Tryd.prog 77 #[.int .i64 (k : Int)] w fun e w' => e = .returned (.string ⟨(numL k).toArray⟩) ∧ w = w' := by
  rw [← dec_16 h]
  exact Print_nonneg k w (by omega)
theorem RWord_16 {k : Nat} (h : k < 16) (w : World) : Calls Tryd.prog 78 #[.int .u8 (k : Int)] w fun e w' => e = .returned (.string ⟨(wordL k).toArray⟩) ∧ w = w' := by
  have HI := Lib.hid (fun w => Print_16 h w)
  rcases case16 h with rfl | rfl | rfl | rfl | rfl | rfl | rfl | rfl | rfl | rfl | rfl | rfl | rfl | rfl | rfl | rfl
  all_goals
    go_enter Tryd.func78, Tryd.ntmps78
    go_wp2_with (go_at_call 77; refine (HI.out _).mono ?_; rintro e w1 ⟨rfl, rfl⟩)
    go_ret
    exact ⟨rfl, rfl⟩

set_option maxHeartbeats 1000000 in
theorem RParse_any (S : List UInt8) (w : World) : Calls Tryd.prog 69 #[.string ⟨S.toArray⟩] w fun e w' => e = .returned (.tuple #[.int .u8 (parseP S 16 0).1, .int .i64 (parseP S 16 0).2]) ∧ w = w' := by
  go_enter Tryd.func69, Tryd.ntmps69
  go_wp2_with fail
  go_loop [4] (fun i => ∃ k : Nat, k ≤ 16 ∧ i = .int .i64 k ∧ Hid (parseP S 16 0 = parseP S (16 - k) k)) (fun i => 16 - (intOf i).toNat)
  case atStart => exact ⟨0, by omega, rfl, rfl⟩
  case round =>
    obtain ⟨k, hk, rfl, hH⟩ := hrel
    by_cases hlt : k < 16
    · have HW := Lib.hid (fun w => RWord_16 hlt w)
      have HI := Lib.hid (fun w => Print_16 hlt w)
      have HS := Lib.hid (parse_step (S := S) hlt)
      obtain ⟨Wd, hWd⟩ : ∃ Wd, wordL k = Wd := ⟨_, rfl⟩
      obtain ⟨Nm, hNm⟩ : ∃ Nm, numL k = Nm := ⟨_, rfl⟩
      rw [hWd] at HW HS
      rw [hNm] at HI HS
      clear hWd hNm
      have hk15 : (k : Int) ≤ 15 := by omega
      by_cases h1 : S = Nm
      · have h1b : (S == Nm) = true := by simpa using h1
        have HR := Lib.hid (HS.out.trans (if_pos (.inr h1)))
        clear h1
        go_wp2_with (go_at_call 77; refine (HI.out _).mono ?_; rintro e w1 ⟨rfl, rfl⟩)
        go_ret2
        rw [hH.out, HR.out]
        exact ⟨rfl, rfl⟩
      · have h1b : (S == Nm) = false := by simpa using h1
        by_cases h2 : S = Wd
        · have h2b : (S == Wd) = true := by simpa using h2
          have HR := Lib.hid (HS.out.trans (if_pos (.inl h2)))
          clear h1 h2
          go_wp2_with (first
            | (go_at_call 78; refine (HW.out _).mono ?_; rintro e w1 ⟨rfl, rfl⟩)
            | (go_at_call 77; refine (HI.out _).mono ?_; rintro e w1 ⟨rfl, rfl⟩))
          go_ret2
          rw [hH.out, HR.out]
          exact ⟨rfl, rfl⟩
        · have h2b : (S == Wd) = false := by simpa using h2
          have HR := Lib.hid (HS.out.trans (if_neg (by intro h; rcases h with h | h; exact h2 h; exact h1 h)))
          clear h1 h2
          go_wp2_with (first
            | (go_at_call 78; refine (HW.out _).mono ?_; rintro e w1 ⟨rfl, rfl⟩)
            | (go_at_call 77; refine (HI.out _).mono ?_; rintro e w1 ⟨rfl, rfl⟩))
          refine ⟨⟨k + 1, by omega, by go_num, ?_⟩, by simp [intOf]; omega⟩
          show _ = _
          rw [hH.out, HR.out]
    · obtain rfl : k = 16 := by omega
      go_wp2_with fail
      go_ret2
      rw [hH.out]
      exact ⟨rfl, rfl⟩

/-! ### Bits -/
def coversB (a b : Nat) : Bool := b &&& (255 - a) == 0
/-! ### Needs -/
def rulesB (n : Int) : Bool := decide (10 ≤ n) && decide (n ≤ 17)
def needsP (n : Int) : Int × Int := if n = 2 ∨ n = 4 ∨ n = 5 ∨ n = 6 ∨ n = 9 then (1, 0) else if n = 1 ∨ n = 3 then (2, 0) else if n = 7 ∨ n = 8 then (4, 0) else if rulesB n = true then (8, 0) else (0, 1)
theorem needs_case (n : Int) : (n = 1 ∨ n = 2 ∨ n = 3 ∨ n = 4 ∨ n = 5 ∨ n = 6 ∨ n = 7 ∨ n = 8 ∨ n = 9) ∨ (n ≠ 1 ∧ n ≠ 2 ∧ n ≠ 3 ∧ n ≠ 4 ∧ n ≠ 5 ∧ n ≠ 6 ∧ n ≠ 7 ∧ n ≠ 8 ∧ n ≠ 9) := by omega

end Go.Proofs.YtaopohacelmglaaDoor.Rt

/-
  Plain: roads, and what a request says (both ways: the program's and the document's).
-/
namespace Go.Proofs.YtaopohacelmglaaDoor
open Go.RowKit

abbrev Bs := List UInt8
def nmW : Bs := [78, 65, 77, 69]
def hxW : Bs := [72, 69, 88]
def nrW : Bs := [78]
/-- What an operation says beside what it does, its body and its token. -/
structure OpR where
  tn : Bs
  of : Bs
  num : Int
  til : Int
  rts : Nat
def opZ : OpR := ⟨[], List.replicate 32 0, 0, 0, 0⟩
def fitsF : List Bs → List Bs → Bool
  | [], [] => true
  | x :: l, y :: p => (x == nmW || x == hxW || x == nrW || x == y) && fitsF l p
  | _, _ => false
noncomputable def fillS (x y : Bs) (o : OpR) : Option OpR :=
  if x = nmW then (if Nm.nameB ⟨y.toArray⟩ then some { o with tn := y } else none)
  else if x = hxW then (if (Nm.idR ⟨y.toArray⟩).2 = 0 then some { o with of := (Nm.idR ⟨y.toArray⟩).1 } else none)
  else if x = nrW then (if (Nm.numR ⟨y.toArray⟩).2 = 0 then some { o with num := (Nm.numR ⟨y.toArray⟩).1 } else none)
  else some o
noncomputable def fillF : List Bs → List Bs → OpR → Option OpR
  | x :: l, y :: p, o => (fillS x y o).bind (fillF l p)
  | _, _, o => some o
def quW : Bs := [113, 117, 111, 116, 97]
def riW : Bs := [114, 105, 103, 104, 116, 115]
def unW : Bs := [117, 110, 116, 105, 108]
def teW : Bs := [116, 101, 110, 97, 110, 116]
/-- One parameter; how many that must be are met. -/
noncomputable def askS (q t : Bool) (p : Tg.Pm) (o : OpR) : Option (OpR × Nat) :=
  if q && p.1 == quW then (if (Nm.numR ⟨p.2.toArray⟩).2 = 0 then some ({ o with num := (Nm.numR ⟨p.2.toArray⟩).1 }, 1) else none)
  else if t && p.1 == riW then (if (Rt.parseP p.2 16 0).2 = 0 then some ({ o with rts := (Rt.parseP p.2 16 0).1 }, 1) else none)
  else if t && p.1 == unW then (if (Nm.numR ⟨p.2.toArray⟩).2 = 0 then some ({ o with til := (Nm.numR ⟨p.2.toArray⟩).1 }, 1) else none)
  else if t && p.1 == teW && Nm.nameB ⟨p.2.toArray⟩ then some ({ o with tn := p.2 }, 0)
  else none
noncomputable def askF (q t : Bool) : List Tg.Pm → OpR → Option (OpR × Nat)
  | [], o => some (o, 0)
  | p :: l, o => (askS q t p o).bind fun r => (askF q t l r.1).map fun s => (s.1, r.2 + s.2)
def mustN (q t : Bool) : Nat := if q then 1 else if t then 2 else 0
noncomputable def askR (q t : Bool) (l : List Tg.Pm) (o : OpR) : Option OpR := (askF q t l o).bind fun r => if r.2 = mustN q t then some r.1 else none
structure Road where
  m : Bs
  p : Bs
  d : Nat
  b : Bool
  q : Bool
  t : Bool
def Road.parts (r : Road) : List Bs := split1 47 r.p

end Go.Proofs.YtaopohacelmglaaDoor

/-
  Plain: parameters by the document's way.
-/
namespace Go.Proofs.YtaopohacelmglaaDoor
open Go.RowKit

noncomputable def valR (p : Tg.Pm) (o : OpR) : Option OpR :=
  if p.1 = quW then (if (Nm.numR ⟨p.2.toArray⟩).2 = 0 then some { o with num := (Nm.numR ⟨p.2.toArray⟩).1 } else none)
  else if p.1 = unW then (if (Nm.numR ⟨p.2.toArray⟩).2 = 0 then some { o with til := (Nm.numR ⟨p.2.toArray⟩).1 } else none)
  else if p.1 = riW then (if (Rt.parseP p.2 16 0).2 = 0 then some { o with rts := (Rt.parseP p.2 16 0).1 } else none)
  else (if Nm.nameB ⟨p.2.toArray⟩ then some { o with tn := p.2 } else none)
def mustL (q t : Bool) : List Bs := if q then [quW] else if t then [riW, unW] else []
def mayL (q t : Bool) : List Bs := if q then [] else if t then [teW] else []
noncomputable def parR (must may : List Bs) : List Tg.Pm → OpR → Option OpR
  | [], o => some o
  | p :: l, o => if must.contains p.1 || may.contains p.1 then (valR p o).bind (parR must may l) else none
noncomputable def paramsR (must may : List Bs) (l : List Tg.Pm) (o : OpR) : Option OpR := if must.all (fun m => l.any (fun p => p.1 == m)) then parR must may l o else none
theorem ask_step (q t : Bool) (hqt : (q && t) = false) (p : Tg.Pm) (o : OpR) :
    askS q t p o = if (mustL q t).contains p.1 || (mayL q t).contains p.1 then (valR p o).map (fun o' => (o', if (mustL q t).contains p.1 then 1 else 0)) else none := by
  obtain ⟨n, v⟩ := p
  unfold askS valR mustL mayL
  dsimp only
  cases q
  · cases t
    · simp
    · by_cases h1 : n = riW
      · subst h1
        by_cases h : (Rt.parseP v 16 0).2 = 0 <;> simp [h, riW, quW, unW]
      · by_cases h2 : n = unW
        · subst h2
          by_cases h : (Nm.numR ⟨v.toArray⟩).2 = 0 <;> simp [h, riW, quW, unW]
        · by_cases h3 : n = teW
          · subst h3
            by_cases h : Nm.nameB ⟨v.toArray⟩ = true <;> simp [h, riW, quW, unW, teW]
          · simp [h1, h2, h3]
  · cases t
    · by_cases h1 : n = quW
      · subst h1
        by_cases h : (Nm.numR ⟨v.toArray⟩).2 = 0 <;> simp [h]
      · simp [h1]
    · cases hqt
theorem ask_fold (q t : Bool) (hqt : (q && t) = false) : ∀ (l : List Tg.Pm) (o : OpR), askF q t l o = (parR (mustL q t) (mayL q t) l o).map (fun o' => (o', l.countP (fun p => (mustL q t).contains p.1)))
  | [], o => rfl
  | p :: l, o => by
    rw [askF, ask_step q t hqt, parR]
    cases hc : ((mustL q t).contains p.1 || (mayL q t).contains p.1)
    · rfl
    · simp only [if_true]
      cases valR p o with
      | none => rfl
      | some o' =>
        simp only [Option.map_some, Option.bind_some]
        rw [ask_fold q t hqt l o', List.countP_cons]
        cases parR (mustL q t) (mayL q t) l o' with
        | none => rfl
        | some o2 => simp [Nat.add_comm]
def Apart (l : List Tg.Pm) : Prop := l.Pairwise (fun p q => p.1 ≠ q.1)
theorem count_one {a : Bs} : ∀ {l : List Tg.Pm}, Apart l → l.countP (fun p => p.1 == a) = if l.any (fun p => p.1 == a) then 1 else 0
  | [], _ => rfl
  | p :: l, h => by
    obtain ⟨h1, h2⟩ := List.pairwise_cons.1 h
    rw [List.countP_cons, List.any_cons, count_one h2]
    cases hp : (p.1 == a)
    · simp only [Bool.false_or, Bool.false_eq_true, if_false, Nat.add_zero]
    · have hno : l.any (fun q => q.1 == a) = false := by
        rw [List.any_eq_false]
        intro q hq
        have := h1 q hq
        have e : p.1 = a := by simpa using hp
        rw [e] at this
        simpa using Ne.symm this
      simp [hno]
theorem count_two {a b : Bs} (hab : a ≠ b) : ∀ l : List Tg.Pm, l.countP (fun p => [a, b].contains p.1) = l.countP (fun p => p.1 == a) + l.countP (fun p => p.1 == b)
  | [] => rfl
  | p :: l => by
    rw [List.countP_cons, List.countP_cons, List.countP_cons, count_two hab l]
    by_cases h1 : p.1 = a
    · simp [h1, hab]
      omega
    · by_cases h2 : p.1 = b
      · simp [h2, Ne.symm hab]
        omega
      · simp [h1, h2]
theorem ask_params (q t : Bool) (hqt : (q && t) = false) {l : List Tg.Pm} (h : Apart l) (o : OpR) : askR q t l o = paramsR (mustL q t) (mayL q t) l o := by
  unfold askR paramsR
  rw [ask_fold q t hqt]
  have hcount : (l.countP (fun p => (mustL q t).contains p.1) = mustN q t) ↔ (mustL q t).all (fun m => l.any (fun p => p.1 == m)) = true := by
    unfold mustL mustN
    cases q
    · cases t
      · simp
      · simp only [Bool.false_eq_true, if_false, if_true]
        rw [count_two (by decide), count_one h, count_one h]
        rw [show ([riW, unW].all fun m => l.any fun p => p.1 == m) = (l.any (fun p => p.1 == riW) && (l.any (fun p => p.1 == unW) && true)) from rfl]
        generalize l.any (fun p => p.1 == riW) = X
        generalize l.any (fun p => p.1 == unW) = Y
        cases X <;> cases Y <;> simp
    · simp only [if_true]
      have e : (fun p : Tg.Pm => [quW].contains p.1) = (fun p => p.1 == quW) := by
        funext p
        rw [List.contains_cons]
        simp only [List.contains_nil, Bool.or_false]
      rw [e, count_one h]
      rw [show ([quW].all fun m => l.any fun p => p.1 == m) = (l.any (fun p => p.1 == quW) && true) from rfl]
      generalize l.any (fun p => p.1 == quW) = X
      cases X <;> simp
  cases parR (mustL q t) (mayL q t) l o with
  | none => simp
  | some o' =>
    simp only [Option.map_some, Option.bind_some]
    by_cases hc : l.countP (fun p => (mustL q t).contains p.1) = mustN q t
    · rw [if_pos hc, if_pos (hcount.1 hc)]
    · rw [if_neg hc, if_neg (fun h => hc (hcount.2 h))]
theorem apart_of {P : List Bs} {Q : List Tg.Pm} (h : Tg.MayP P Q) : Apart Q := by
  unfold Apart
  rw [List.pairwise_iff_getElem]
  intro i j hi hj hij
  obtain ⟨_, _, _, h4⟩ := h.2 j Q[j] (List.getElem?_eq_getElem hj)
  exact h4 i Q[i] hij (List.getElem?_eq_getElem hi)

end Go.Proofs.YtaopohacelmglaaDoor

/-
  An operation's cells, and stores into a block that holds one.
-/
namespace Go.Proofs.YtaopohacelmglaaDoor
open Go.RowKit

structure Opv where
  d : Int
  o : OpR
  bA : Option Addr
  bn : Nat
  bc : Nat
  tA : Option Addr
  tn : Nat
  tc : Nat
def opT (x : Opv) : List Value := .int .i64 x.o.num :: .int .i64 x.o.til :: .int .u8 (x.o.rts : Int) :: .slice x.bA x.bn x.bc :: .slice x.tA x.tn x.tc :: .int .i64 0 :: zid.map b8
def opL (x : Opv) : List Value := .int .i64 x.d :: .string ⟨x.o.tn.toArray⟩ :: (x.o.of.map b8 ++ opT x)
def opA (x : Opv) : Array Value := (opL x).toArray
def opvZ : Opv := ⟨0, opZ, none, 0, 0, none, 0, 0⟩
section
variable {x : Opv}
theorem opL_len (h : x.o.of.length = 32) : (opL x).length = 72 := by simp [opL, opT, h, zid_len]
theorem opA_size (h : x.o.of.length = 32) : (opA x).size = 72 := by simp [opA, opL_len h]
theorem opL_one : ∀ v ∈ opL x, v.oneCell' = true := by
  intro v hv
  simp only [opL, opT, List.mem_cons, List.mem_append] at hv
  rcases hv with rfl | rfl | hv | rfl | rfl | rfl | rfl | rfl | rfl | hv
  · rfl
  · rfl
  · exact b8_one _ v hv
  · rfl
  · rfl
  · rfl
  · rfl
  · rfl
  · rfl
  · exact b8_one _ v hv
theorem opA_one : ∀ v ∈ (opA x).toList, v.oneCell' = true := opL_one
theorem opL_tail (h : x.o.of.length = 32) (i : Nat) : (opL x)[34 + i]? = (opT x)[i]? := by
  unfold opL
  rw [show 34 + i = 32 + i + 1 + 1 by omega, List.getElem?_cons_succ, List.getElem?_cons_succ, List.getElem?_append_right (by simp [h])]
  simp [h]
theorem opL_set (h : x.o.of.length = 32) (i : Nat) (v : Value) : (opL x).set (34 + i) v = .int .i64 x.d :: .string ⟨x.o.tn.toArray⟩ :: (x.o.of.map b8 ++ (opT x).set i v) := by
  unfold opL
  rw [show 34 + i = 32 + i + 1 + 1 by omega, List.set_cons_succ, List.set_cons_succ, List.set_append_right _ _ (by simp [h])]
  simp [h]
end
theorem opZ_len : opvZ.o.of.length = 32 := rfl
theorem zero_op : (Tryd.prog.info? 33).map (·.zero) = some (some (.agg (opA opvZ))) := by kernel_rfl
theorem size_op0 : (Tryd.prog.info? 33).map (·.size) = some 72 := by kernel_rfl
theorem size_op {x : Opv} (h : x.o.of.length = 32) : (Tryd.prog.info? 33).map (·.size) = some (opA x).size := by rw [opA_size h]; exact size_op0
theorem build_op0 (W : World) : (Instr.build 33 #[]).run Tryd.prog W = .ok (.agg (opA opvZ)) W := by kernel_rfl

/-- Block g holds an operation. -/
structure OpB (w : World) (g : Nat) (x : Opv) : Prop where
  ok : x.o.of.length = 32
  obj : w.heap[g]? = some (.cells (opA x) 33 (0, 0))
theorem cells_set {w : World} {g i : Nat} {cs : Array Value} {t : TypeId} {fr : Nat × Nat} (v : Value) (h : w.heap[g]? = some (.cells cs t fr)) : (w.setCell ⟨g, i, none⟩ v).heap[g]? = some (.cells (cs.setIfInBounds i v) t fr) := by
  simp [World.setCell, Array.getElem?_modify, h]
theorem cells_at {w : World} {g i : Nat} {cs : Array Value} {t : TypeId} {fr : Nat × Nat} {v : Value} (h : w.heap[g]? = some (.cells cs t fr)) (hv : cs[i]? = some v) : w.cell? ⟨g, i, none⟩ = some v := by
  simp [World.cell?, h, hv]
section
variable {w w' : World} {g : Nat} {x : Opv}
theorem OpB.lt (h : OpB w g x) : g < w.heap.size := (Array.getElem?_eq_some_iff.1 h.obj).1
theorem OpB.below (h : OpB w g x) (hb : Below w.heap.size w w') : OpB w' g x := ⟨h.ok, (hb.block g h.lt).trans h.obj⟩
theorem OpB.keep (h : OpB w g x) (he : w'.heap[g]? = w.heap[g]?) : OpB w' g x := ⟨h.ok, he.trans h.obj⟩
theorem OpB.free (h : OpB w g x) (i : Nat) : w.frozen? ⟨g, i, none⟩ = false := by simp [World.frozen?, h.obj]
theorem OpB.cDo (h : OpB w g x) : w.cell? ⟨g, 0, none⟩ = some (.int .i64 x.d) := cells_at h.obj rfl
theorem OpB.cTn (h : OpB w g x) : w.cell? ⟨g, 1, none⟩ = some (.string ⟨x.o.tn.toArray⟩) := cells_at h.obj rfl
theorem OpB.cTail (h : OpB w g x) {i : Nat} {v : Value} (hv : (opT x)[i]? = some v) : w.cell? ⟨g, 34 + i, none⟩ = some v := cells_at h.obj (by simp only [opA, List.getElem?_toArray]; rw [opL_tail h.ok]; exact hv)
theorem OpB.cNum (h : OpB w g x) : w.cell? ⟨g, 34, none⟩ = some (.int .i64 x.o.num) := h.cTail (i := 0) rfl
theorem OpB.cTil (h : OpB w g x) : w.cell? ⟨g, 35, none⟩ = some (.int .i64 x.o.til) := h.cTail (i := 1) rfl
theorem OpB.cRts (h : OpB w g x) : w.cell? ⟨g, 36, none⟩ = some (.int .u8 (x.o.rts : Int)) := h.cTail (i := 2) rfl
theorem OpB.cBody (h : OpB w g x) : w.cell? ⟨g, 37, none⟩ = some (.slice x.bA x.bn x.bc) := h.cTail (i := 3) rfl
theorem OpB.cTok (h : OpB w g x) : w.cell? ⟨g, 38, none⟩ = some (.slice x.tA x.tn x.tc) := h.cTail (i := 4) rfl
theorem OpB.setDo (h : OpB w g x) (d : Int) : OpB (w.setCell ⟨g, 0, none⟩ (.int .i64 d)) g { x with d := d } := ⟨h.ok, by rw [cells_set _ h.obj]; rfl⟩
theorem OpB.setTn (h : OpB w g x) (s : Bs) : OpB (w.setCell ⟨g, 1, none⟩ (.string ⟨s.toArray⟩)) g { x with o := { x.o with tn := s } } := ⟨h.ok, by rw [cells_set _ h.obj]; rfl⟩
theorem OpB.setTail (h : OpB w g x) {i : Nat} {v : Value} {y : Opv} (hy : y.o.of = x.o.of ∧ y.d = x.d ∧ y.o.tn = x.o.tn) (hv : (opT x).set i v = opT y) : OpB (w.setCell ⟨g, 34 + i, none⟩ v) g y := by
  obtain ⟨h1, h2, h3⟩ := hy
  refine ⟨by rw [h1]; exact h.ok, ?_⟩
  rw [cells_set _ h.obj]
  congr 2
  unfold opA
  rw [List.setIfInBounds_toArray, opL_set h.ok, hv]
  unfold opL
  rw [h1, h2, h3]
theorem OpB.setNum (h : OpB w g x) (n : Int) : OpB (w.setCell ⟨g, 34, none⟩ (.int .i64 n)) g { x with o := { x.o with num := n } } := h.setTail (i := 0) ⟨rfl, rfl, rfl⟩ rfl
theorem OpB.setTil (h : OpB w g x) (n : Int) : OpB (w.setCell ⟨g, 35, none⟩ (.int .i64 n)) g { x with o := { x.o with til := n } } := h.setTail (i := 1) ⟨rfl, rfl, rfl⟩ rfl
theorem OpB.setRts (h : OpB w g x) (n : Nat) : OpB (w.setCell ⟨g, 36, none⟩ (.int .u8 (n : Int))) g { x with o := { x.o with rts := n } } := h.setTail (i := 2) ⟨rfl, rfl, rfl⟩ rfl
theorem OpB.setBody (h : OpB w g x) (A : Option Addr) (n c : Nat) : OpB (w.setCell ⟨g, 37, none⟩ (.slice A n c)) g { x with bA := A, bn := n, bc := c } := h.setTail (i := 3) ⟨rfl, rfl, rfl⟩ rfl
theorem OpB.setTok (h : OpB w g x) (A : Option Addr) (n c : Nat) : OpB (w.setCell ⟨g, 38, none⟩ (.slice A n c)) g { x with tA := A, tn := n, tc := c } := h.setTail (i := 4) ⟨rfl, rfl, rfl⟩ rfl
theorem run_storeVar_part {P : Program} {ty t : TypeId} {o : Nat} {cs : Array Value} {vs : List Value} (hg : w.heap[g]? = some (.cells cs t (0, 0))) (hi : (P.info? ty).map (·.size) = some vs.length) (hs : o + vs.length ≤ cs.size) (h1 : ∀ v ∈ vs, v.oneCell' = true) :
    (storeVar ty ⟨g, o, none⟩ (.agg vs.toArray)).run P w = .ok () (w.setRow g (cs.toList.take o ++ vs ++ cs.toList.drop (o + vs.length)).toArray) := by
  have h := run_storeCells_fr P g o t (0, 0) vs 0 cs w hg (by omega) (fun j _ _ => by omega) h1
  simp only [Nat.add_zero] at h
  simp only [storeVar, Sem.run_bind, sizeOf_run hi, Result.andThen_ok, Value.cells, List.size_toArray, ne_eq, not_true_eq_false, if_false, h]
theorem OpB.setOf (h : OpB w g x) {R : Bs} (hR : R.length = 32) : OpB (w.setRow g ((opA x).toList.take 2 ++ R.map b8 ++ (opA x).toList.drop (2 + (R.map b8).length)).toArray) g { x with o := { x.o with of := R } } := by
  refine ⟨hR, ?_⟩
  rw [setRow_heap w g _ _ _ _ h.obj]
  congr 2
  have hl := h.ok
  simp only [opA, opL, List.length_map, hR]
  congr 1
  have e : (Value.int .i64 x.d :: Value.string ⟨x.o.tn.toArray⟩ :: (x.o.of.map b8 ++ opT x)).drop (2 + 32) = opT x := by
    rw [show 2 + 32 = 32 + 1 + 1 from rfl, List.drop_succ_cons, List.drop_succ_cons]
    have : (x.o.of.map b8).length = 32 := by simp [hl]
    rw [← this]
    exact List.drop_left
  rw [e]
  rfl
end
section
variable {ops : Array Oper} {rest : List Oper} {o : Oper} {a : Act} {Q : Exit → Act → World → Prop} {w : World}
/-- A name of 32 bytes, stored into an operation. -/
theorem wpList_store_of (hw : Region.wanted o (yielded ops a.tmps) = true) (u v : Operand) (ho : o.op = .store 30 u v) {g : Nat} (hx : a.eval u = .pointer (some ⟨g, 2, none⟩)) {R : Bs} (hy : a.eval v = .agg (idA R)) (hR : R.length = 32) {x : Opv} (h : OpB w g x)
    (k : ∀ w', OpB w' g { x with o := { x.o with of := R } } → w.grownBy w' (some g) → w'.heap.size = w.heap.size → wpList Tryd.prog ops Q rest (a.put o.dst undef) w') : wpList Tryd.prog ops Q (o :: rest) a w := by
  refine wpList_taken hw fun K hK => ?_
  have hrun := run_storeVar_part (P := Tryd.prog) (ty := 30) (o := 2) (vs := R.map b8) h.obj (by rw [List.length_map, hR]; exact size_id0) (by rw [opA_size h.ok]; simp [hR]) (b8_one R)
  have hrun' : (storeVar 30 ⟨g, 2, none⟩ (.agg (idA R))).run Tryd.prog w = _ := hrun
  unfold Oper.wp execOp
  simp only [ho, hx, hy, Instr.storeAt, Instr.sureAddr, Sem.run_bind, Sem.run_pure, Result.andThen_ok, hrun']
  exact hK _ _ (k _ (h.setOf hR) ⟨rfl, rfl, rfl, by simp, fun q _ hq => setRow_other w g q _ (fun e => hq (by rw [e]))⟩ (by simp))
end

end Go.Proofs.YtaopohacelmglaaDoor

/-
  Package route: a road's parts, which paths are a road's.
-/
namespace Go.Proofs.YtaopohacelmglaaDoor
open Go.RowKit

def roadA (r : Road) : Array Value := #[.string ⟨r.m.toArray⟩, .string ⟨r.p.toArray⟩, .int .i64 (r.d : Int), .bool r.b, .bool r.q, .bool r.t]
theorem size_road (r : Road) : (Tryd.prog.info? 58).map (·.size) = some (roadA r).size := by
  rw [show (roadA r).size = 6 from rfl]
  kernel_rfl
theorem cell_road {w : World} {g : Nat} {r : Road} {t : TypeId} {fr : Nat × Nat} (h : w.heap[g]? = some (.cells (roadA r) t fr)) : w.cell? ⟨g, 0, none⟩ = some (.string ⟨r.m.toArray⟩) ∧ w.cell? ⟨g, 1, none⟩ = some (.string ⟨r.p.toArray⟩) ∧ w.cell? ⟨g, 2, none⟩ = some (.int .i64 (r.d : Int)) ∧ w.cell? ⟨g, 3, none⟩ = some (.bool r.b) ∧ w.cell? ⟨g, 4, none⟩ = some (.bool r.q) ∧ w.cell? ⟨g, 5, none⟩ = some (.bool r.t) := by
  refine ⟨?_, ?_, ?_, ?_, ?_, ?_⟩ <;> (simp only [World.cell?, h]; rfl)
theorem parts_any (r : Road) (hr : r.p.length ≤ 1000) (w : World) (hm : Mx w) : Calls Tryd.prog 38 #[.agg (roadA r)] w fun e w' => ∃ A, e = .returned (.slice A r.parts.length r.parts.length) ∧ Rd w' 1 A r.parts.length r.parts.length (r.parts.map Tg.strV) ∧ (∀ q, blk A = some q → w.heap.size ≤ q) ∧ Below w.heap.size w w' := by
  have HS := Lib.hid (fun W (hb : Below w.heap.size w W) => Split_any 47 r.p (by omega) W (hm.below hb))
  clear hm
  go_enter Tryd.func38, Tryd.ntmps38
  go_upto_region 1 with (refine wpList_box rfl _ _ rfl (roadA r) rfl ?_; intro w1 hg1 hb1 hz1; clear hz1)
  obtain ⟨_, hc1, _⟩ := cell_road hg1
  go_wp2_with fail
  refine (HS.out _ hb1).mono ?_
  rintro e w2 ⟨rfl, hw2⟩
  have hpl := (Tg.split1_le 47 r.p).1
  have hrd : Rd w2 1 (some ⟨w1.heap.size, 0, none⟩) r.parts.length r.parts.length (r.parts.map Tg.strV) := by
    rw [hw2]
    exact Rd.lit w1 _ _ _ (by rw [List.length_map]; rfl) (by unfold Road.parts maxLen; omega)
  have hb2 : Below w.heap.size w w2 := by rw [hw2]; exact hb1.alloc hb1.size _
  clear hw2
  go_wp2_with fail
  go_ret
  exact ⟨_, rfl, hrd, fun q hq => by have := hb1.size; obtain rfl : w1.heap.size = q := by simpa [blk] using hq
                                     exact this, hb2⟩
def okW (x y : Bs) : Bool := x == nmW || x == hxW || x == nrW || x == y
theorem fits_iff : ∀ (l p : List Bs), fitsF l p = true ↔ l.length = p.length ∧ ∀ (k : Nat) x y, l[k]? = some x → p[k]? = some y → okW x y = true
  | [], [] => by simp [fitsF]
  | [], y :: p => by simp [fitsF]
  | x :: l, [] => by simp [fitsF]
  | x :: l, y :: p => by
    have ih := fits_iff l p
    have e : fitsF (x :: l) (y :: p) = (okW x y && fitsF l p) := rfl
    rw [e, Bool.and_eq_true, ih]
    constructor
    · rintro ⟨h1, h2, h3⟩
      refine ⟨by simp [h2], fun k a b ha hb => ?_⟩
      cases k with
      | zero =>
        obtain rfl : x = a := by simpa using ha
        obtain rfl : y = b := by simpa using hb
        exact h1
      | succ k => exact h3 k a b (by simpa using ha) (by simpa using hb)
    · rintro ⟨h1, h2⟩
      exact ⟨h2 0 x y rfl rfl, by simpa using h1, fun k a b ha hb => h2 (k + 1) a b (by simpa using ha) (by simpa using hb)⟩

set_option maxRecDepth 20000 in
set_option maxHeartbeats 8000000 in
theorem fits_any {w : World} {A : Option Addr} {n c : Nat} {P : List Bs} (r : Road) (hr : r.p.length ≤ 1000) (hS : Tg.Ss w A n c P) (hm : Mx w) :
    Calls Tryd.prog 20 #[.agg (roadA r), .slice A n c] w fun e w' => e = .returned (.bool (fitsF r.parts P)) ∧ Below w.heap.size w w' := by
  have HP := Lib.hid (fun W (hb : Below w.heap.size w W) => parts_any r hr W (hm.below hb))
  have hPl : P.length = n := by have := Rd.len hS; simpa using this
  have HPL := Lib.hid hPl
  have hfi := fits_iff r.parts P
  obtain ⟨l, hl⟩ : ∃ l, r.parts = l := ⟨_, rfl⟩
  rw [hl] at HP hfi ⊢
  have hpl := (Tg.split1_le 47 r.p).1
  have hll : l.length ≤ 1001 := by rw [← hl]; unfold Road.parts; omega
  obtain ⟨N, hN⟩ : ∃ N, l.length = N := ⟨_, rfl⟩
  rw [hN] at HP hll
  rw [hN, hPl] at hfi
  have HN := Lib.hid hN
  have HFI := Lib.hid hfi
  have HS := Lib.hid (fun W (hb : Below w.heap.size w W) => Rd.below hS hb)
  have hnil := Rd.nil hS
  have hle := Rd.le hS
  clear hm hPl hfi hl hN hpl hS
  go_enter Tryd.func20, Tryd.ntmps20
  go_upto_region 1 with (refine wpList_box rfl _ _ rfl (roadA r) rfl ?_; intro w1 hg1 hb1 hz1; clear hz1)
  go_wp2_with (refine wpList_load_all (by rfl) _ _ rfl w.heap.size rfl _ _ _ _ hg1 Tryd.underlying58 rfl (size_road r) ?_)
  refine (HP.out _ hb1).mono ?_
  rintro e w2 ⟨B, rfl, hrd, _, hbl2⟩
  have hb2 := hb1.trans (hbl2.mono hb1.size)
  clear hg1 hb1 hbl2 HP
  by_cases hne : N = n
  · subst hne
    have hnn : ((N : Int) != (N : Int)) = false := by simp
    go_wp2_with fail
    go_loopw [17] (fun i wr => ∃ k : Nat, k ≤ N ∧ i = .int .i64 k ∧ w2 = wr ∧ Hid (∀ (j : Nat) x y, j < k → l[j]? = some x → P[j]? = some y → okW x y = true)) (fun i _ => N - (intOf i).toNat)
    case atStart => exact ⟨0, by omega, rfl, rfl, (show ∀ (j : Nat) x y, j < 0 → _ from fun j x y h => absurd h (by omega))⟩
    case round =>
      obtain ⟨k, hk, rfl, rfl, hH⟩ := hrel
      by_cases hkN : k < N
      · have hx : l[k]? = some (l[k]'(by rw [HN.out]; exact hkN)) := List.getElem?_eq_getElem _
        generalize l[k]'(by rw [HN.out]; exact hkN) = x at hx
        have hy : P[k]? = some (P[k]'(by rw [HPL.out]; exact hkN)) := List.getElem?_eq_getElem _
        generalize P[k]'(by rw [HPL.out]; exact hkN) = y at hy
        have hidx := run_index_rd (P := Tryd.prog) (A := B) (n := N) (c := N) Tg.es hrd.nil hrd.le k hkN
        have hidy := run_index_rd (P := Tryd.prog) (A := A) (n := N) (c := c) Tg.es hnil hle k hkN
        rw [Nat.mul_one] at hidx hidy
        have hcx := Rd.cell hrd k (Tg.strV x) (by rw [List.getElem?_map, hx]; rfl)
        have hcy := Rd.cell (HS.out _ hb2) k (Tg.strV y) (by rw [List.getElem?_map, hy]; rfl)
        unfold Tg.strV at hcx hcy
        have hk' : (k : Int) < N := by omega
        have hno : okW x y = false → fitsF l P = false := fun h => by
          cases hf : fitsF l P
          · rfl
          · have := (HFI.out.1 hf).2 k x y hx hy
            rw [h] at this
            cases this
        have HNO := Lib.hid hno
        have hys : okW x y = true → ∀ (j : Nat) a b, j < k + 1 → l[j]? = some a → P[j]? = some b → okW a b = true := fun h j a b hj ha hb => by
          by_cases hjk : j < k
          · exact hH.out j a b hjk ha hb
          · obtain rfl : j = k := by omega
            rw [hx] at ha
            rw [hy] at hb
            obtain rfl := Option.some.inj ha
            obtain rfl := Option.some.inj hb
            exact h
        have HYS := Lib.hid hys
        clear hx hy hno hys hH hkN
        by_cases c1 : x = nmW
        · subst c1
          have HG := Lib.hid (HYS.out (by simp [okW]))
          unfold nmW at hcx
          go_wp2_with fail
          go_roundw
          case rel => exact ⟨k + 1, by omega, by go_num, by trivial, HG⟩
          case measure => simp [intOf]; omega
        · have d1 : (x == [78, 65, 77, 69]) = false := by simpa [nmW] using c1
          by_cases c2 : x = hxW
          · subst c2
            have HG := Lib.hid (HYS.out (by simp [okW]))
            unfold hxW at hcx
            clear c1 d1
            go_wp2_with fail
            go_roundw
            case rel => exact ⟨k + 1, by omega, by go_num, by trivial, HG⟩
            case measure => simp [intOf]; omega
          · have d2 : (x == [72, 69, 88]) = false := by simpa [hxW] using c2
            by_cases c3 : x = nrW
            · subst c3
              have HG := Lib.hid (HYS.out (by simp [okW]))
              unfold nrW at hcx
              clear c1 d1 c2 d2
              go_wp2_with fail
              go_roundw
              case rel => exact ⟨k + 1, by omega, by go_num, by trivial, HG⟩
              case measure => simp [intOf]; omega
            · have d3 : (x == [78]) = false := by simpa [nrW] using c3
              by_cases c4 : x = y
              · have d4 : (x == y) = true := by simpa using c4
                have HG := Lib.hid (HYS.out (by simp [okW, c4]))
                clear c1 c2 c3 c4
                go_wp2_with fail
                go_roundw
                case rel => exact ⟨k + 1, by omega, by go_num, by trivial, HG⟩
                case measure => simp [intOf]; omega
              · have d4 : (x == y) = false := by simpa using c4
                have HE := Lib.hid (HNO.out (by simp [okW, c1, c2, c3, c4]))
                clear c1 c2 c3 c4
                go_wp2_with fail
                go_ret
                rw [HE.out]
                exact ⟨rfl, hb2⟩
      · obtain rfl : k = N := by omega
        have HE := Lib.hid (HFI.out.2 ⟨by trivial, fun j x y hx hy => hH.out j x y (by rw [← HN.out]; exact (List.getElem?_eq_some_iff.1 hx).1) hx hy⟩)
        clear hkN hH
        go_wp2_with fail
        go_ret
        rw [HE.out]
        exact ⟨rfl, hb2⟩
  · have hnn : ((N : Int) != (n : Int)) = true := by simp; omega
    have HE : Hid (fitsF l P = false) := by
      show _ = _
      cases hf : fitsF l P
      · rfl
      · exact absurd (HFI.out.1 hf).1 hne
    clear hne
    go_wp2_with fail
    go_ret
    rw [HE.out]
    exact ⟨rfl, hb2⟩

end Go.Proofs.YtaopohacelmglaaDoor

/-
  Package route: all roads.
-/
namespace Go.Proofs.YtaopohacelmglaaDoor
open Go.RowKit

def roadsT : List Road := [
  ⟨[80, 85, 84], [116, 47, 78, 65, 77, 69, 47, 98, 47, 72, 69, 88], 1, true, false, false⟩,
  ⟨[71, 69, 84], [116, 47, 78, 65, 77, 69, 47, 98, 47, 72, 69, 88], 2, false, false, false⟩,
  ⟨[80, 79, 83, 84], [116, 47, 78, 65, 77, 69, 47, 115], 3, true, false, false⟩,
  ⟨[71, 69, 84], [116, 47, 78, 65, 77, 69, 47, 115], 4, false, false, false⟩,
  ⟨[71, 69, 84], [116, 47, 78, 65, 77, 69, 47, 115, 47, 78], 5, false, false, false⟩,
  ⟨[71, 69, 84], [116, 47, 78, 65, 77, 69, 47, 115, 47, 78, 47, 102, 105, 108, 101, 115], 6, false, false, false⟩,
  ⟨[68, 69, 76, 69, 84, 69], [116, 47, 78, 65, 77, 69, 47, 115, 47, 78], 7, false, false, false⟩,
  ⟨[80, 79, 83, 84], [116, 47, 78, 65, 77, 69, 47, 115, 47, 78, 47, 115, 112, 97, 114, 101], 8, false, false, false⟩,
  ⟨[71, 69, 84], [116, 47, 78, 65, 77, 69, 47, 107, 101, 121], 9, false, false, false⟩,
  ⟨[80, 85, 84], [97, 47, 116, 47, 78, 65, 77, 69], 10, false, true, false⟩,
  ⟨[80, 79, 83, 84], [97, 47, 116, 47, 78, 65, 77, 69], 11, false, true, false⟩,
  ⟨[80, 79, 83, 84], [97, 47, 116, 47, 78, 65, 77, 69, 47, 109, 97, 114, 107], 14, false, false, false⟩,
  ⟨[80, 79, 83, 84], [97, 47, 116, 47, 78, 65, 77, 69, 47, 115, 119, 101, 101, 112], 15, false, false, false⟩,
  ⟨[80, 79, 83, 84], [97, 47, 116, 111, 107, 101, 110], 12, false, false, true⟩,
  ⟨[68, 69, 76, 69, 84, 69], [97, 47, 116, 111, 107, 101, 110, 47, 78], 13, false, false, false⟩,
  ⟨[71, 69, 84], [97, 47, 108, 111, 103], 16, false, false, false⟩,
  ⟨[71, 69, 84], [97, 47, 104, 101, 97, 100], 17, false, false, false⟩]
def rdsL (l : List Road) : List Value := l.flatMap fun r => (roadA r).toList
theorem rdsL_len : ∀ l : List Road, (rdsL l).length = l.length * 6
  | [] => rfl
  | r :: l => by
    have := rdsL_len l
    have e : rdsL (r :: l) = (roadA r).toList ++ rdsL l := rfl
    rw [e, List.length_append, this]
    simp [roadA]
    omega
theorem rdsL_at : ∀ (l : List Road) (k : Nat) (r : Road), l[k]? = some r → ∀ j, j < 6 → (rdsL l)[k * 6 + j]? = (roadA r).toList[j]?
  | [], k, r, h, j, hj => by simp at h
  | q :: l, 0, r, h, j, hj => by
    obtain rfl : q = r := by simpa using h
    have e : rdsL (q :: l) = (roadA q).toList ++ rdsL l := rfl
    rw [e, Nat.zero_mul, Nat.zero_add, List.getElem?_append_left (by simp [roadA]; omega)]
  | q :: l, k + 1, r, h, j, hj => by
    have ih := rdsL_at l k r (by simpa using h) j hj
    have e : rdsL (q :: l) = (roadA q).toList ++ rdsL l := rfl
    have hl : (roadA q).toList.length = 6 := rfl
    rw [e, List.getElem?_append_right (by omega), hl, show (k + 1) * 6 + j - 6 = k * 6 + j by omega]
    exact ih
def rdZ : Road := ⟨[], [], 0, false, false, false⟩
theorem er : ElemT Tryd.prog 55 58 (.agg (roadA rdZ)) 6 48 := ElemT.of Tryd.underlying55 (by kernel_rfl) rfl (by omega)

set_option maxRecDepth 100000 in
set_option maxHeartbeats 8000000 in
theorem roads_any (w : World) : Calls Tryd.prog 19 #[] w fun e w' => e = .returned (.slice (some ⟨w.heap.size, 0, none⟩) 17 17) ∧ w' = w.alloc (.cells (rdsL roadsT).toArray 58) := by
  obtain ⟨ie, hie, hz, hs, _⟩ := (er).info
  go_enter Tryd.func19, Tryd.ntmps19
  go_wp2_with (refine wpList_buildSlice rfl 55 58 17 _ rfl (rdsL roadsT).toArray ie (.agg (roadA rdZ)) Tryd.underlying55 hie hz (by rw [hs]; decide) (by rw [hs]; decide) (by rw [hs]; kernel_rfl) ?_)
  go_ret
  exact ⟨rfl, rfl⟩

end Go.Proofs.YtaopohacelmglaaDoor

/-
  The document's road texts: cut, great, fits.
-/
namespace Go.Proofs.YtaopohacelmglaaDoor
open Go.RowKit

theorem great_any (x : Bs) (w : World) : Calls Tryd.prog 48 #[.string ⟨x.toArray⟩] w fun e w' => e = .returned (.bool (x == nmW || x == hxW || x == nrW)) ∧ w' = w := by
  by_cases c1 : x = nmW
  · subst c1
    go_enter Tryd.func48, Tryd.ntmps48
    unfold nmW
    go_wp2_with fail
    go_ret
    exact ⟨rfl, rfl⟩
  have d1 : (x == [78, 65, 77, 69]) = false := by simpa [nmW] using c1
  by_cases c2 : x = hxW
  · subst c2
    go_enter Tryd.func48, Tryd.ntmps48
    unfold hxW
    go_wp2_with fail
    go_ret
    exact ⟨rfl, rfl⟩
  have d2 : (x == [72, 69, 88]) = false := by simpa [hxW] using c2
  by_cases c3 : x = nrW
  · subst c3
    go_enter Tryd.func48, Tryd.ntmps48
    unfold nrW
    go_wp2_with fail
    go_ret
    exact ⟨rfl, rfl⟩
  have d3 : (x == [78]) = false := by simpa [nrW] using c3
  have HE : Hid ((x == nmW || x == hxW || x == nrW) = false) := by
    show _ = _
    simp [c1, c2, c3]
  clear c1 c2 c3
  go_enter Tryd.func48, Tryd.ntmps48
  go_wp2_with fail
  go_ret
  rw [HE.out]
  exact ⟨rfl, rfl⟩


set_option maxRecDepth 20000 in
set_option maxHeartbeats 8000000 in
theorem rfits_any {w : World} {A B : Option Addr} {n c m d : Nat} {l P : List Bs} (hL : Tg.Ss w A n c l) (hS : Tg.Ss w B m d P) :
    Calls Tryd.prog 28 #[.slice A n c, .slice B m d] w fun e w' => e = .returned (.bool (fitsF l P)) ∧ Below w.heap.size w w' := by
  have hLl : l.length = n := by have := Rd.len hL; simpa using this
  have hPl : P.length = m := by have := Rd.len hS; simpa using this
  have hfi := fits_iff l P
  rw [hLl, hPl] at hfi
  have HLL := Lib.hid hLl
  have HPL := Lib.hid hPl
  have HFI := Lib.hid hfi
  have HL := Lib.hid hL
  have HS := Lib.hid hS
  have hnilA := Rd.nil hL
  have hleA := Rd.le hL
  have hmx := Rd.max hL
  have hnilB := Rd.nil hS
  have hleB := Rd.le hS
  unfold maxLen at hmx
  clear hLl hPl hfi hL hS
  by_cases hne : n = m
  · subst hne
    have hnn : ((n : Int) != (n : Int)) = false := by simp
    go_enter Tryd.func28, Tryd.ntmps28
    go_wp2_with fail
    go_loopw [5] (fun i wr => ∃ k : Nat, k ≤ n ∧ i = .int .i64 k ∧ Below w.heap.size w wr ∧ Hid (∀ (j : Nat) x y, j < k → l[j]? = some x → P[j]? = some y → okW x y = true)) (fun i _ => n - (intOf i).toNat)
    case atStart => exact ⟨0, by omega, rfl, Below.refl _ _, (show ∀ (j : Nat) x y, j < 0 → _ from fun j x y h => absurd h (by omega))⟩
    case round =>
      obtain ⟨k, hk, rfl, hb, hH⟩ := hrel
      by_cases hkN : k < n
      · have hx : l[k]? = some (l[k]'(by rw [HLL.out]; exact hkN)) := List.getElem?_eq_getElem _
        generalize l[k]'(by rw [HLL.out]; exact hkN) = x at hx
        have hy : P[k]? = some (P[k]'(by rw [HPL.out]; exact hkN)) := List.getElem?_eq_getElem _
        generalize P[k]'(by rw [HPL.out]; exact hkN) = y at hy
        have hidx := run_index_rd (P := Tryd.prog) (A := A) (n := n) (c := c) Tg.es hnilA hleA k hkN
        have hidy := run_index_rd (P := Tryd.prog) (A := B) (n := n) (c := d) Tg.es hnilB hleB k hkN
        rw [Nat.mul_one] at hidx hidy
        have hcx := fun b : Later wr => Rd.cell (Rd.below (Rd.below HL.out hb) b.below) k (Tg.strV x) (by rw [List.getElem?_map, hx]; rfl)
        have hcy := fun b : Later wr => Rd.cell (Rd.below (Rd.below HS.out hb) b.below) k (Tg.strV y) (by rw [List.getElem?_map, hy]; rfl)
        unfold Tg.strV at hcx hcy
        have hk' : (k : Int) < n := by omega
        have hno : okW x y = false → fitsF l P = false := fun h => by
          cases hf : fitsF l P
          · rfl
          · have := (HFI.out.1 hf).2 k x y hx hy
            rw [h] at this
            cases this
        have HNO := Lib.hid hno
        have hys : okW x y = true → ∀ (j : Nat) a b, j < k + 1 → l[j]? = some a → P[j]? = some b → okW a b = true := fun h j a b hj ha hb => by
          by_cases hjk : j < k
          · exact hH.out j a b hjk ha hb
          · obtain rfl : j = k := by omega
            rw [hx] at ha
            rw [hy] at hb
            obtain rfl := Option.some.inj ha
            obtain rfl := Option.some.inj hb
            exact h
        have HYS := Lib.hid hys
        have HQ := Lib.hid (fun W => great_any x W)
        obtain ⟨G, hG⟩ : ∃ G, (x == nmW || x == hxW || x == nrW) = G := ⟨_, rfl⟩
        rw [hG] at HQ
        have hok : okW x y = (G || x == y) := by unfold okW; rw [hG]
        have hb9 := hb.drew
        clear hx hy hno hys hH hkN hG
        cases G
        · by_cases c4 : x = y
          · have d4 : (x == y) = true := by simpa using c4
            have HG := Lib.hid (HYS.out (by rw [hok, d4]; rfl))
            clear c4 hok
            go_upto_region 6 with fail
            refine wp_region_plan (MPlan.reads [0, 1, 2, 3, 4, 5, 6, 7, 8, 9, 10, 11, 12, 13, 14, 15, 16] .fin) (fun x => ∃ b : Later wr, x = b.at') (by kernel_rfl) (by kernel_rfl) (by kernel_rfl) (fun _ _ _ _ _ h => h) ⟨⟨wr.drew, (Below.refl _ _).drew⟩, rfl⟩ ?_
            iterate 4 (refine plan_read (o := ⟨_, _, _, _, _, _⟩) (by rfl) (by rfl) ?_; go_big_quiet_step (fail); refine wpQuiet_nil ?_)
            refine plan_quiet (o := ⟨_, _, _, _, _, _⟩) (by rfl) (by rfl) (.bool false) (fun W => by go_simp) (fun w' _ => (HQ.out w').mono fun _ _ h => ⟨h.1, h.2.symm⟩) ?_
            simp only [Act.put, List.setIfInBounds_toArray, List.set_cons_succ, List.set_cons_zero]
            iterate 2 (refine plan_read (o := ⟨_, _, _, _, _, _⟩) (by rfl) (by rfl) ?_; go_big_quiet_step (fail); refine wpQuiet_nil ?_)
            iterate 9 (refine plan_read (o := ⟨_, _, _, _, _, _⟩) (by rfl) (by rfl) ?_; go_big_quiet_step (fail); refine wpQuiet_nil ?_)
            iterate 1 (refine plan_read (o := ⟨_, _, _, _, _, _⟩) (by rfl) (by rfl) ?_; go_big_quiet_step (fail); refine wpQuiet_nil ?_)
            refine plan_fin ?_
            clear hcx hcy hb
            go_wp2_with fail
            go_roundw
            case rel => exact ⟨k + 1, by omega, by go_num, hb9, HG⟩
            case measure => simp [intOf]; omega
          · have d4 : (x == y) = false := by simpa using c4
            have HE := Lib.hid (HNO.out (by rw [hok, d4]; rfl))
            clear c4 hok
            go_upto_region 6 with fail
            refine wp_region_plan (MPlan.reads [0, 1, 2, 3, 4, 5, 6, 7, 8, 9, 10, 11, 12, 13, 14, 15, 16] .fin) (fun x => ∃ b : Later wr, x = b.at') (by kernel_rfl) (by kernel_rfl) (by kernel_rfl) (fun _ _ _ _ _ h => h) ⟨⟨wr.drew, (Below.refl _ _).drew⟩, rfl⟩ ?_
            iterate 4 (refine plan_read (o := ⟨_, _, _, _, _, _⟩) (by rfl) (by rfl) ?_; go_big_quiet_step (fail); refine wpQuiet_nil ?_)
            refine plan_quiet (o := ⟨_, _, _, _, _, _⟩) (by rfl) (by rfl) (.bool false) (fun W => by go_simp) (fun w' _ => (HQ.out w').mono fun _ _ h => ⟨h.1, h.2.symm⟩) ?_
            simp only [Act.put, List.setIfInBounds_toArray, List.set_cons_succ, List.set_cons_zero]
            iterate 2 (refine plan_read (o := ⟨_, _, _, _, _, _⟩) (by rfl) (by rfl) ?_; go_big_quiet_step (fail); refine wpQuiet_nil ?_)
            iterate 9 (refine plan_read (o := ⟨_, _, _, _, _, _⟩) (by rfl) (by rfl) ?_; go_big_quiet_step (fail); refine wpQuiet_nil ?_)
            iterate 1 (refine plan_read (o := ⟨_, _, _, _, _, _⟩) (by rfl) (by rfl) ?_; go_big_quiet_step (fail); refine wpQuiet_nil ?_)
            refine plan_fin ?_
            go_wp2_with fail
            go_ret
            rw [HE.out]
            exact ⟨rfl, hb9⟩
        · have HG := Lib.hid (HYS.out (by rw [hok]; rfl))
          clear hok
          go_upto_region 6 with fail
          refine wp_region_plan (MPlan.reads [0, 1, 2, 3, 4, 5, 6, 7, 8, 9, 10, 11, 12, 13, 14, 15, 16] .fin) (fun x => ∃ b : Later wr, x = b.at') (by kernel_rfl) (by kernel_rfl) (by kernel_rfl) (fun _ _ _ _ _ h => h) ⟨⟨wr.drew, (Below.refl _ _).drew⟩, rfl⟩ ?_
          iterate 4 (refine plan_read (o := ⟨_, _, _, _, _, _⟩) (by rfl) (by rfl) ?_; go_big_quiet_step (fail); refine wpQuiet_nil ?_)
          refine plan_quiet (o := ⟨_, _, _, _, _, _⟩) (by rfl) (by rfl) (.bool true) (fun W => by go_simp) (fun w' _ => (HQ.out w').mono fun _ _ h => ⟨h.1, h.2.symm⟩) ?_
          simp only [Act.put, List.setIfInBounds_toArray, List.set_cons_succ, List.set_cons_zero]
          iterate 2 (refine plan_read (o := ⟨_, _, _, _, _, _⟩) (by rfl) (by rfl) ?_; go_big_quiet_step (fail); refine wpQuiet_nil ?_)
          iterate 9 (refine plan_skip (o := ⟨_, _, _, _, _, _⟩) (by rfl) (by rfl) ?_; simp only [Act.put, List.setIfInBounds_toArray, List.set_cons_succ, List.set_cons_zero])
          iterate 1 (refine plan_read (o := ⟨_, _, _, _, _, _⟩) (by rfl) (by rfl) ?_; go_big_quiet_step (fail); refine wpQuiet_nil ?_)
          refine plan_fin ?_
          clear hcx hcy hb
          go_wp2_with fail
          go_roundw
          case rel => exact ⟨k + 1, by omega, by go_num, hb9, HG⟩
          case measure => simp [intOf]; omega
      · obtain rfl : k = n := by omega
        have HE := Lib.hid (HFI.out.2 ⟨by trivial, fun j x y hx hy => hH.out j x y (by rw [← HLL.out]; exact (List.getElem?_eq_some_iff.1 hx).1) hx hy⟩)
        clear hkN hH
        go_wp2_with fail
        go_ret
        rw [HE.out]
        exact ⟨rfl, hb⟩
  · have hnn : ((n : Int) != (m : Int)) = true := by simp; omega
    have HE : Hid (fitsF l P = false) := by
      show _ = _
      cases hf : fitsF l P
      · rfl
      · exact absurd (HFI.out.1 hf).1 hne
    clear hne
    go_enter Tryd.func28, Tryd.ntmps28
    go_wp2_with fail
    go_ret
    rw [HE.out]
    exact ⟨rfl, Below.refl _ _⟩

end Go.Proofs.YtaopohacelmglaaDoor

/-
  The document's cut: the parts between signs; none of an empty text.
-/
namespace Go.Proofs.YtaopohacelmglaaDoor
open Go.RowKit

/-- What cut makes of a text. -/
def cutF (c : UInt8) (s : Bs) : List Bs := if s = [] then [] else split1 c s
/-- The parts ahead of place j, the one that has begun at place f. -/
def cutK (c : UInt8) (s : Bs) (f j : Nat) (o : List Bs) : Prop := f ≤ j ∧ j ≤ s.length ∧ split1 c s = o ++ split1 c (s.drop f) ∧ c ∉ (s.drop f).take (j - f)
theorem cutK_start (c : UInt8) (s : Bs) : cutK c s 0 0 [] := ⟨Nat.le_refl _, by omega, by simp, by simp⟩
theorem take_snoc {s : Bs} {f j : Nat} {x : UInt8} (hf : f ≤ j) (hx : s[j]? = some x) : (s.drop f).take (j + 1 - f) = (s.drop f).take (j - f) ++ [x] := by
  have h1 : (s.drop f)[j - f]? = some x := by rw [List.getElem?_drop, show f + (j - f) = j by omega]; exact hx
  obtain ⟨h2, h3⟩ := List.getElem?_eq_some_iff.1 h1
  rw [show j + 1 - f = (j - f) + 1 by omega, List.take_succ_eq_append_getElem h2, h3]
theorem cutK_other {c : UInt8} {s : Bs} {f j : Nat} {o : List Bs} {x : UInt8} (h : cutK c s f j o) (hx : s[j]? = some x) (hne : x ≠ c) : cutK c s f (j + 1) o := by
  obtain ⟨h1, h2, h3, h4⟩ := h
  have hl := (List.getElem?_eq_some_iff.1 hx).1
  refine ⟨by omega, by omega, h3, ?_⟩
  rw [take_snoc h1 hx]
  simp only [List.mem_append, List.mem_singleton, not_or]
  exact ⟨h4, fun e => hne e.symm⟩
theorem cutK_hit {c : UInt8} {s : Bs} {f j : Nat} {o : List Bs} (h : cutK c s f j o) (hx : s[j]? = some c) : cutK c s (j + 1) (j + 1) (o ++ [(s.drop f).take (j - f)]) := by
  obtain ⟨h1, h2, h3, h4⟩ := h
  obtain ⟨hl, he⟩ := List.getElem?_eq_some_iff.1 hx
  refine ⟨Nat.le_refl _, by omega, ?_, by simp⟩
  have e : s.drop f = (s.drop f).take (j - f) ++ c :: s.drop (j + 1) := by
    have e1 : s.drop j = c :: s.drop (j + 1) := by rw [List.drop_eq_getElem_cons hl, he]
    rw [← e1]
    have := (List.take_append_drop (j - f) (s.drop f)).symm
    rw [List.drop_drop, show f + (j - f) = j by omega] at this
    exact this
  have e2 : split1 c (s.drop f) = (s.drop f).take (j - f) :: split1 c (s.drop (j + 1)) := by
    have := Tg.split1_front h4 (s.drop (j + 1))
    rw [← e] at this
    exact this
  rw [h3, e2, List.append_assoc]
  rfl
theorem cutK_end {c : UInt8} {s : Bs} {f : Nat} {o : List Bs} (h : cutK c s f s.length o) : split1 c s = o ++ [(s.drop f).take (s.length - f)] := by
  obtain ⟨h1, _, h3, h4⟩ := h
  have e : (s.drop f).take (s.length - f) = s.drop f := List.take_of_length_le (by simp)
  rw [e] at h4 ⊢
  rw [h3, Tg.split1_none h4]

set_option maxRecDepth 20000 in
set_option maxHeartbeats 8000000 in
theorem rcut_any (c : UInt8) (s : Bs) (hs : s.length ≤ 1000) (w : World) : Calls Tryd.prog 27 #[.string ⟨s.toArray⟩, .int .u8 (c.toNat : Int)] w fun e w' => ∃ A n cc, e = .returned (.slice A n cc) ∧ Own w' w.heap.size 9 1 A n cc ((cutF c s).map Tg.strV) ∧ Below w.heap.size w w' := by
  by_cases h0 : s = []
  · subst h0
    go_enter Tryd.func27, Tryd.ntmps27
    go_wp2_with fail
    refine wp_loop_rounds 1 ?_
    rw [rounds_succ]
    go_wp2_with fail
    go_ret
    exact ⟨_, _, _, rfl, Own.nil_ _ _ _ _, Below.refl _ _⟩
  have hcf : cutF c s = split1 c s := if_neg h0
  rw [hcf]
  have hemp := Tg.ne_emp h0
  have hsz := size_mk s
  obtain ⟨L, hL⟩ : ∃ L, s.length = L := ⟨_, rfl⟩
  rw [hL] at hsz hs
  have HL := Lib.hid hL
  clear hL hcf h0
  go_enter Tryd.func27, Tryd.ntmps27
  go_wp2_with fail
  go_loopw [5, 6, 7] (fun lv fv iv wr => ∃ (j f : Nat) (A : Option Addr) (n cc : Nat) (o : List Bs), iv = .int .i64 (j : Int) ∧ fv = .int .i64 (f : Int) ∧ lv = .slice A n cc ∧ Own wr w.heap.size 9 1 A n cc (o.map Tg.strV) ∧ n ≤ j ∧ Below w.heap.size w wr ∧ ((j ≤ L ∧ Hid (cutK c s f j o)) ∨ (j = L + 1 ∧ Hid (o = split1 c s)))) (fun _ _ iv _ => L + 1 - (intOf iv).toNat)
  case atStart => exact ⟨0, 0, none, 0, 0, [], rfl, rfl, rfl, Own.nil_ _ _ _ _, by omega, Below.refl _ _, .inl ⟨by omega, cutK_start c s⟩⟩
  case round =>
    obtain ⟨j, f, A, n, cc, o, rfl, rfl, rfl, ho, hn, hb, hc⟩ := hrel
    have hbs := hb.size
    rcases hc with ⟨hj, hK⟩ | ⟨rfl, hE⟩
    · have hfj := hK.out.1
      have hsl : ∀ W, (Instr.sliceAt 9 (.string ⟨s.toArray⟩) (some (.int .i64 (f : Int))) (some (.int .i64 (j : Int))) none).run Tryd.prog W = .ok (.string ⟨((s.drop f).take (j - f)).toArray⟩) W := fun W => run_str_lh Tryd.underlying9 s f j hfj (by rw [HL.out]; exact hj) rfl rfl W
      have hjl : (j : Int) ≤ L := by omega
      by_cases hjL : j < L
      · have hx : s[j]? = some (s[j]'(by rw [HL.out]; exact hjL)) := List.getElem?_eq_getElem _
        generalize s[j]'(by rw [HL.out]; exact hjL) = x at hx
        have hi : ∀ W, (Instr.index 9 (.string ⟨s.toArray⟩) (.int .i64 (j : Int))).run Tryd.prog W = .ok (.int .u8 (x.toNat : Int)) W := fun W => run_str_at (P := Tryd.prog) Tryd.underlying9 s j x hx (kl := .i64) W
        have hj' : (j : Int) < L := by omega
        have hjne : ((j : Int) == (L : Int)) = false := by simp; omega
        by_cases hxc : x = c
        · subst hxc
          have HN := Lib.hid (cutK_hit hK.out hx)
          have hee : ((x.toNat : Int) == (x.toNat : Int)) = true := by simp
          clear hx hK hjL
          go_wp2_with (at_builtin; refine wpList_app rfl _ _ rfl Tg.es (ho.alloc _) rfl (Rd.lit _ [_] _ 1 rfl (by unfold maxLen; omega)) rfl (by simp [Value.oneCell']) (by omega) (by unfold maxLen; omega) (by have := hb.size; simp; omega) ?_; intro A4 c4 w4 ho4 hg4 hq4; have hb4 := below_app hb (Nat.le_refl _) ho hg4)
          have ho5 : Own w4 w.heap.size 9 1 A4 (n + 1) c4 ((o ++ [(s.drop f).take (j - f)]).map Tg.strV) := by
            rw [List.map_append]
            exact ho4
          go_roundw
          case rel => exact ⟨j + 1, j + 1, A4, n + 1, c4, _, by go_num, by go_num, rfl, ho5, by omega, hb4, .inl ⟨by omega, HN⟩⟩
          case measure => simp [intOf] <;> omega
        · have hee : ((x.toNat : Int) == (c.toNat : Int)) = false := by
            simp
            intro e
            exact hxc (UInt8.toNat_inj.1 (by omega))
          have HN := Lib.hid (cutK_other hK.out hx hxc)
          clear hx hK hjL hxc
          go_wp2_with fail
          go_roundw
          case rel => exact ⟨j + 1, f, A, n, cc, o, by go_num, rfl, rfl, ho, by omega, hb, .inl ⟨by omega, HN⟩⟩
          case measure => simp [intOf] <;> omega
      · obtain rfl : j = L := by omega
        have hee : ((j : Int) == (j : Int)) = true := by simp
        have hK2 := hK.out
        rw [← HL.out] at hK2
        have hend := cutK_end hK2
        rw [HL.out] at hend
        have HN := Lib.hid hend.symm
        clear hK hK2 hend hjL
        go_wp2_with (at_builtin; refine wpList_app rfl _ _ rfl Tg.es (ho.alloc _) rfl (Rd.lit _ [_] _ 1 rfl (by unfold maxLen; omega)) rfl (by simp [Value.oneCell']) (by omega) (by unfold maxLen; omega) (by have := hb.size; simp; omega) ?_; intro A4 c4 w4 ho4 hg4 hq4; have hb4 := below_app hb (Nat.le_refl _) ho hg4)
        have ho5 : Own w4 w.heap.size 9 1 A4 (n + 1) c4 ((o ++ [(s.drop f).take (j - f)]).map Tg.strV) := by
          rw [List.map_append]
          exact ho4
        go_roundw
        case rel => exact ⟨j + 1, j + 1, A4, n + 1, c4, _, by go_num, by go_num, rfl, ho5, by omega, hb4, .inr ⟨rfl, HN⟩⟩
        case measure => simp [intOf] <;> omega
    · have hge : decide (((L + 1 : Nat) : Int) ≤ L) = false := decide_eq_false (by omega)
      have hgn : ¬ (((L + 1 : Nat) : Int) ≤ L) := by omega
      have HE := Lib.hid hE.out
      go_wp2_with fail
      go_ret
      exact ⟨A, n, cc, rfl, by rw [← HE.out]; exact ho, hb⟩

end Go.Proofs.YtaopohacelmglaaDoor
