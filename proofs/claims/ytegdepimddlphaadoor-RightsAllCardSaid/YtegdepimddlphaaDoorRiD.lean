/-
  The laws of layer 13: begun; RightsReads, RightsNeeds.
-/
import Derived.Test.YtegdepimddlphaaDoorRiC
namespace Go.Proofs.YtegdepimddlphaaDoor
open Go.RowKit

theorem Needs_any (n : Int) (w : World) : Calls Tryd.prog 21 #[.int .i64 n] w fun e w' => e = .returned (.tuple #[.int .u8 (needsP n).1, .int .i64 (needsP n).2]) ∧ w = w' := by
  rcases needs_case n with h | ⟨h1, h2, h3, h4, h5, h6, h7, h8, h9⟩
  · rcases h with rfl | rfl | rfl | rfl | rfl | rfl | rfl | rfl | rfl
    all_goals
      go_enter Tryd.func21, Tryd.ntmps21
      go_wp2_with fail
      go_ret2
      exact ⟨rfl, rfl⟩
  · have k1 : (n == 1) = false := by simpa using h1
    have k2 : (n == 2) = false := by simpa using h2
    have k3 : (n == 3) = false := by simpa using h3
    have k4 : (n == 4) = false := by simpa using h4
    have k5 : (n == 5) = false := by simpa using h5
    have k6 : (n == 6) = false := by simpa using h6
    have k7 : (n == 7) = false := by simpa using h7
    have k8 : (n == 8) = false := by simpa using h8
    have k9 : (n == 9) = false := by simpa using h9
    have hR := Lib.hid (fun w => Rules_any n w)
    obtain ⟨b, hb⟩ : ∃ b, rulesB n = b := ⟨_, rfl⟩
    have HP : Hid (needsP n = if b = true then (8, 0) else (0, 1)) := by
      show _ = _
      unfold needsP
      rw [if_neg (by omega), if_neg (by omega), if_neg (by omega), hb]
    rw [hb] at hR
    clear h1 h2 h3 h4 h5 h6 h7 h8 h9 hb
    cases b
    all_goals
      go_enter Tryd.func21, Tryd.ntmps21
      go_wp2_with (go_at_call 23; refine (hR.out _).mono ?_; rintro e w1 ⟨rfl, rfl⟩)
      go_ret2
      rw [HP.out]
      exact ⟨rfl, rfl⟩
theorem RNeeds_any (n : Int) (w : World) : Calls Tryd.prog 22 #[.int .i64 n] w fun e w' => e = .returned (.tuple #[.int .u8 (needsP n).1, .int .i64 (needsP n).2]) ∧ w = w' := by
  rcases needs_case n with h | ⟨h1, h2, h3, h4, h5, h6, h7, h8, h9⟩
  · rcases h with rfl | rfl | rfl | rfl | rfl | rfl | rfl | rfl | rfl
    all_goals
      go_enter Tryd.func22, Tryd.ntmps22
      go_wp2_with fail
      go_ret2
      exact ⟨rfl, rfl⟩
  · have k1 : (n == 1) = false := by simpa using h1
    have k2 : (n == 2) = false := by simpa using h2
    have k3 : (n == 3) = false := by simpa using h3
    have k4 : (n == 4) = false := by simpa using h4
    have k5 : (n == 5) = false := by simpa using h5
    have k6 : (n == 6) = false := by simpa using h6
    have k7 : (n == 7) = false := by simpa using h7
    have k8 : (n == 8) = false := by simpa using h8
    have k9 : (n == 9) = false := by simpa using h9
    have hR := Lib.hid (fun w => RRules_any n w)
    obtain ⟨b, hb⟩ : ∃ b, rulesB n = b := ⟨_, rfl⟩
    have HP : Hid (needsP n = if b = true then (8, 0) else (0, 1)) := by
      show _ = _
      unfold needsP
      rw [if_neg (by omega), if_neg (by omega), if_neg (by omega), hb]
    rw [hb] at hR
    clear h1 h2 h3 h4 h5 h6 h7 h8 h9 hb
    cases b
    all_goals
      go_enter Tryd.func22, Tryd.ntmps22
      go_wp2_with (go_at_call 24; refine (hR.out _).mono ?_; rintro e w1 ⟨rfl, rfl⟩)
      go_ret2
      rw [HP.out]
      exact ⟨rfl, rfl⟩

theorem parse_begun (w : World) : Calls Tryd.prog 9 #[.string ⟨#[114, 117, 108, 101]⟩] w fun e w' => e = .returned (.tuple #[.int .u8 15, .int .i64 0]) ∧ w = w' := by
  have h := Parse_any [114, 117, 108, 101] w
  have e : parseP [114, 117, 108, 101] 16 0 = (15, 0) := by decide
  rw [e] at h
  exact h
theorem covers_begun1 (w : World) : Calls Tryd.prog 15 #[.int .u8 7, .int .u8 3] w fun e w' => e = .returned (.bool true) ∧ w = w' := Covers_any 7 3 (by omega) (by omega) w
theorem covers_begun2 (w : World) : Calls Tryd.prog 15 #[.int .u8 3, .int .u8 7] w fun e w' => e = .returned (.bool false) ∧ w = w' := Covers_any 3 7 (by omega) (by omega) w
theorem word_begun (w : World) : Calls Tryd.prog 11 #[.int .u8 3] w fun e w' => e = .returned (.string ⟨#[97, 100, 100]⟩) ∧ w = w' := Word_16 (k := 3) (by omega) w
theorem begun_any (w : World) : Calls Tryd.prog 8 #[] w fun e w' => e = .returned (.bool true) ∧ w = w' := by
  go_enter Tryd.func8, Tryd.ntmps8
  go_wp2_with fail
  refine (parse_begun _).mono ?_
  rintro e w1 ⟨rfl, rfl⟩
  go_wp2_with fail
  refine (word_begun _).mono ?_
  rintro e w1 ⟨rfl, rfl⟩
  go_wp2_with fail
  refine (covers_begun1 _).mono ?_
  rintro e w1 ⟨rfl, rfl⟩
  go_wp2_with fail
  refine (covers_begun2 _).mono ?_
  rintro e w1 ⟨rfl, rfl⟩
  go_wp2_with fail
  go_ret
  exact ⟨rfl, rfl⟩

theorem rightsReads_walk {w : World} (s : ByteArray) (hs : s.size ≤ maxLen) : Calls Tryd.prog 3 #[.string s] w fun e w' => e = .returned (.bool true) ∧ Below w.heap.size w w' := by
  obtain ⟨⟨S⟩⟩ := s
  unfold maxLen at hs
  have HP := Lib.hid (fun w => Parse_any S w)
  have HR := Lib.hid (fun w => RParse_any S w)
  obtain ⟨r, hr⟩ : ∃ r, parseP S 16 0 = r := ⟨_, rfl⟩
  rw [hr] at HP HR
  clear hr
  go_enter Tryd.func3, Tryd.ntmps3
  go_wp2_with (first
    | (go_at_call 8; refine (begun_any _).mono ?_; rintro e w1 ⟨rfl, rfl⟩)
    | (go_at_call 9; refine (HP.out _).mono ?_; rintro e w1 ⟨rfl, rfl⟩)
    | (go_at_call 10; refine (HR.out _).mono ?_; rintro e w1 ⟨rfl, rfl⟩))
  all_goals
    go_ret
    exact ⟨rfl, Below.refl _ _⟩

theorem rightsNeeds_walk {w : World} (n : Int) (h0 : -9223372036854775808 ≤ n) (h1 : n ≤ 9223372036854775807) : Calls Tryd.prog 7 #[.int .i64 n] w fun e w' => e = .returned (.bool true) ∧ Below w.heap.size w w' := by
  have HP := Lib.hid (fun w => Needs_any n w)
  have HR := Lib.hid (fun w => RNeeds_any n w)
  have HU := Lib.hid (fun w => Rules_any n w)
  have HV := Lib.hid (fun w => RRules_any n w)
  obtain ⟨r, hr⟩ : ∃ r, needsP n = r := ⟨_, rfl⟩
  obtain ⟨b, hb⟩ : ∃ b, rulesB n = b := ⟨_, rfl⟩
  rw [hr] at HP HR
  rw [hb] at HU HV
  clear hr hb
  go_enter Tryd.func7, Tryd.ntmps7
  go_wp2_with (first
    | (go_at_call 8; refine (begun_any _).mono ?_; rintro e w1 ⟨rfl, rfl⟩)
    | (go_at_call 21; refine (HP.out _).mono ?_; rintro e w1 ⟨rfl, rfl⟩)
    | (go_at_call 22; refine (HR.out _).mono ?_; rintro e w1 ⟨rfl, rfl⟩)
    | (go_at_call 23; refine (HU.out _).mono ?_; rintro e w1 ⟨rfl, rfl⟩)
    | (go_at_call 24; refine (HV.out _).mono ?_; rintro e w1 ⟨rfl, rfl⟩))
  go_ret
  exact ⟨rfl, Below.refl _ _⟩

end Go.Proofs.YtegdepimddlphaaDoor
