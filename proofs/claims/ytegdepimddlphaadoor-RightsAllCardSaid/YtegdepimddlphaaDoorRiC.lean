/-
  Package rights: the document's Word and Parse; bits; needs; begun.
-/
import Derived.Test.YtegdepimddlphaaDoorRiB
import Derived.Test.YtegdepimddlphaaDoorDec
namespace Go.Proofs.YtegdepimddlphaaDoor
open Go.RowKit

theorem dec_16 {k : Nat} (h : k < 16) : decL k = numL k := by
  rcases case16 h with rfl | rfl | rfl | rfl | rfl | rfl | rfl | rfl | rfl | rfl | rfl | rfl | rfl | rfl | rfl | rfl
  all_goals first
    | (rw [decL_small _ (by omega)]; rfl)
    | (rw [decL_big _ (by omega), decL_small _ (by omega)]; rfl)
theorem Print_16 {k : Nat} (h : k < 16) (w : World) : Calls Tryd.prog 26 #[.int .i64 (k : Int)] w fun e w' => e = .returned (.string ⟨(numL k).toArray⟩) ∧ w = w' := by
  rw [← dec_16 h]
  exact Print_nonneg k w (by omega)
theorem RWord_16 {k : Nat} (h : k < 16) (w : World) : Calls Tryd.prog 20 #[.int .u8 (k : Int)] w fun e w' => e = .returned (.string ⟨(wordL k).toArray⟩) ∧ w = w' := by
  have HI := Lib.hid (fun w => Print_16 h w)
  rcases case16 h with rfl | rfl | rfl | rfl | rfl | rfl | rfl | rfl | rfl | rfl | rfl | rfl | rfl | rfl | rfl | rfl
  all_goals
    go_enter Tryd.func20, Tryd.ntmps20
    go_wp2_with (go_at_call 26; refine (HI.out _).mono ?_; rintro e w1 ⟨rfl, rfl⟩)
    go_ret
    exact ⟨rfl, rfl⟩

set_option maxHeartbeats 1000000 in
theorem RParse_any (S : List UInt8) (w : World) : Calls Tryd.prog 10 #[.string ⟨S.toArray⟩] w fun e w' => e = .returned (.tuple #[.int .u8 (parseP S 16 0).1, .int .i64 (parseP S 16 0).2]) ∧ w = w' := by
  go_enter Tryd.func10, Tryd.ntmps10
  go_wp2_with fail
  go_loop [4] (fun i => ∃ k : Nat, k ≤ 16 ∧ i = .int .i64 k ∧ Hid (parseP S 16 0 = parseP S (16 - k) k)) (fun i => 16 - (intOf i).toNat)
  case atStart => exact ⟨0, by omega, rfl, rfl⟩
  case round =>
    obtain ⟨k, hk, rfl, hH⟩ := hrel
    by_cases hlt : k < 16
    · have HW := Lib.hid (fun w => RWord_16 hlt w)
      have HI := Lib.hid (fun w => Print_16 hlt w)
      have HS := Lib.hid (parse_step (S := S) hlt)
      obtain ⟨Wd, hWd⟩ : ∃ Wd, wordL k = Wd := ⟨_, rfl⟩
      obtain ⟨Nm, hNm⟩ : ∃ Nm, numL k = Nm := ⟨_, rfl⟩
      rw [hWd] at HW HS
      rw [hNm] at HI HS
      clear hWd hNm
      have hk15 : (k : Int) ≤ 15 := by omega
      by_cases h1 : S = Nm
      · have h1b : (S == Nm) = true := by simpa using h1
        have HR := Lib.hid (HS.out.trans (if_pos (.inr h1)))
        clear h1
        go_wp2_with (go_at_call 26; refine (HI.out _).mono ?_; rintro e w1 ⟨rfl, rfl⟩)
        go_ret2
        rw [hH.out, HR.out]
        exact ⟨rfl, rfl⟩
      · have h1b : (S == Nm) = false := by simpa using h1
        by_cases h2 : S = Wd
        · have h2b : (S == Wd) = true := by simpa using h2
          have HR := Lib.hid (HS.out.trans (if_pos (.inl h2)))
          clear h1 h2
          go_wp2_with (first
            | (go_at_call 20; refine (HW.out _).mono ?_; rintro e w1 ⟨rfl, rfl⟩)
            | (go_at_call 26; refine (HI.out _).mono ?_; rintro e w1 ⟨rfl, rfl⟩))
          go_ret2
          rw [hH.out, HR.out]
          exact ⟨rfl, rfl⟩
        · have h2b : (S == Wd) = false := by simpa using h2
          have HR := Lib.hid (HS.out.trans (if_neg (by intro h; rcases h with h | h; exact h2 h; exact h1 h)))
          clear h1 h2
          go_wp2_with (first
            | (go_at_call 20; refine (HW.out _).mono ?_; rintro e w1 ⟨rfl, rfl⟩)
            | (go_at_call 26; refine (HI.out _).mono ?_; rintro e w1 ⟨rfl, rfl⟩))
          refine ⟨⟨k + 1, by omega, by go_num, ?_⟩, by simp [intOf]; omega⟩
          show _ = _
          rw [hH.out, HR.out]
    · obtain rfl : k = 16 := by omega
      go_wp2_with fail
      go_ret2
      rw [hH.out]
      exact ⟨rfl, rfl⟩

/-! ### Bits -/
theorem Meet_any (a b : Nat) (ha : a < 256) (hb : b < 256) (w : World) : Calls Tryd.prog 13 #[.int .u8 (a : Int), .int .u8 (b : Int)] w fun e w' => e = .returned (.int .u8 ((a &&& b : Nat) : Int)) ∧ w = w' := by
  have H := Lib.hid (u8_and_nat a b ha hb)
  go_enter Tryd.func13, Tryd.ntmps13
  go_wp2_with fail
  go_ret
  rw [← H.out]
  exact ⟨rfl, rfl⟩
theorem Join_any (a b : Nat) (ha : a < 256) (hb : b < 256) (w : World) : Calls Tryd.prog 14 #[.int .u8 (a : Int), .int .u8 (b : Int)] w fun e w' => e = .returned (.int .u8 ((a ||| b : Nat) : Int)) ∧ w = w' := by
  have H := Lib.hid (u8_or_nat a b ha hb)
  go_enter Tryd.func14, Tryd.ntmps14
  go_wp2_with fail
  go_ret
  rw [← H.out]
  exact ⟨rfl, rfl⟩
def coversB (a b : Nat) : Bool := b &&& (255 - a) == 0
theorem Covers_any (a b : Nat) (ha : a < 256) (hb : b < 256) (w : World) : Calls Tryd.prog 15 #[.int .u8 (a : Int), .int .u8 (b : Int)] w fun e w' => e = .returned (.bool (coversB a b)) ∧ w = w' := by
  have h := u8_andNot_nat b a hb ha
  have hc : (bits .andNot .u8 (b : Int) (a : Int) == 0) = coversB a b := by
    rw [h]
    unfold coversB
    rw [Bool.eq_iff_iff]
    simp only [beq_iff_eq]
    omega
  have HC := Lib.hid hc
  clear h hc
  go_enter Tryd.func15, Tryd.ntmps15
  go_wp2_with fail
  go_ret
  rw [← HC.out]
  exact ⟨rfl, rfl⟩

/-! ### Needs -/
def rulesB (n : Int) : Bool := decide (10 ≤ n) && decide (n ≤ 17)
theorem Rules_any (n : Int) (w : World) : Calls Tryd.prog 23 #[.int .i64 n] w fun e w' => e = .returned (.bool (rulesB n)) ∧ w = w' := by
  unfold rulesB
  by_cases h1 : 10 ≤ n
  · rw [decide_eq_true h1]
    go_enter Tryd.func23, Tryd.ntmps23
    go_wp2_with fail
    go_ret
    exact ⟨rfl, rfl⟩
  · rw [decide_eq_false h1]
    have h1' : decide (10 ≤ n) = false := by simpa using h1
    clear h1
    go_enter Tryd.func23, Tryd.ntmps23
    go_wp2_with fail
    go_ret
    exact ⟨rfl, rfl⟩
theorem RRules_any (n : Int) (w : World) : Calls Tryd.prog 24 #[.int .i64 n] w fun e w' => e = .returned (.bool (rulesB n)) ∧ w = w' := by
  unfold rulesB
  by_cases h1 : 10 ≤ n
  · rw [decide_eq_true h1]
    go_enter Tryd.func24, Tryd.ntmps24
    go_wp2_with fail
    go_ret
    exact ⟨rfl, rfl⟩
  · rw [decide_eq_false h1]
    have h1' : decide (10 ≤ n) = false := by simpa using h1
    clear h1
    go_enter Tryd.func24, Tryd.ntmps24
    go_wp2_with fail
    go_ret
    exact ⟨rfl, rfl⟩
def needsP (n : Int) : Int × Int := if n = 2 ∨ n = 4 ∨ n = 5 ∨ n = 6 ∨ n = 9 then (1, 0) else if n = 1 ∨ n = 3 then (2, 0) else if n = 7 ∨ n = 8 then (4, 0) else if rulesB n = true then (8, 0) else (0, 1)
theorem needs_case (n : Int) : (n = 1 ∨ n = 2 ∨ n = 3 ∨ n = 4 ∨ n = 5 ∨ n = 6 ∨ n = 7 ∨ n = 8 ∨ n = 9) ∨ (n ≠ 1 ∧ n ≠ 2 ∧ n ≠ 3 ∧ n ≠ 4 ∧ n ≠ 5 ∧ n ≠ 6 ∧ n ≠ 7 ∧ n ≠ 8 ∧ n ≠ 9) := by omega

end Go.Proofs.YtegdepimddlphaaDoor
