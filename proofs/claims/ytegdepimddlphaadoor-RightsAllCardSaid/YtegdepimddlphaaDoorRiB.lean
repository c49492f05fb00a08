/-
  Package rights: Word and Parse; strconv's numbers below 16.
-/
import Derived.Test.YtegdepimddlphaaDoorRiA
namespace Go.Proofs.YtegdepimddlphaaDoor
open Go.RowKit

set_option maxRecDepth 100000 in
set_option maxHeartbeats 4000000 in
theorem small_16 {k : Nat} (h : k < 16) (w : World) : Calls Tryd.prog 31 #[.int .i64 (k : Int)] w fun e w' => e = .returned (.string ⟨(numL k).toArray⟩) ∧ w = w' := by
  rcases case16 h with rfl | rfl | rfl | rfl | rfl | rfl | rfl | rfl | rfl | rfl | rfl | rfl | rfl | rfl | rfl | rfl
  all_goals
    go_enter Tryd.func31, Tryd.ntmps31
    go_wp2_with fail
    go_ret
    exact ⟨rfl, rfl⟩
theorem FormatInt_16 {k : Nat} (h : k < 16) (w : World) : Calls Tryd.prog 30 #[.int .i64 (k : Int), .int .i64 10] w fun e w' => e = .returned (.string ⟨(numL k).toArray⟩) ∧ w = w' := by
  have hk : (k : Int) < 100 := by omega
  have hk0 : (0 : Int) ≤ k := by omega
  go_enter Tryd.func30, Tryd.ntmps30
  go_wp2_with (go_at_call 31; refine (small_16 h _).mono ?_; rintro e w1 ⟨rfl, rfl⟩)
  go_ret
  exact ⟨rfl, rfl⟩
theorem Itoa2_16 {k : Nat} (h : k < 16) (w : World) : Calls Tryd.prog 29 #[.int .i64 (k : Int)] w fun e w' => e = .returned (.string ⟨(numL k).toArray⟩) ∧ w = w' := by
  go_enter Tryd.func29, Tryd.ntmps29
  go_wp2_with (go_at_call 30; refine (FormatInt_16 h _).mono ?_; rintro e w1 ⟨rfl, rfl⟩)
  go_ret
  exact ⟨rfl, rfl⟩
theorem Itoa_16 {k : Nat} (h : k < 16) (w : World) : Calls Tryd.prog 25 #[.int .i64 (k : Int)] w fun e w' => e = .returned (.string ⟨(numL k).toArray⟩) ∧ w = w' := by
  go_enter Tryd.func25, Tryd.ntmps25
  go_wp2_with (go_at_call 29; refine (Itoa2_16 h _).mono ?_; rintro e w1 ⟨rfl, rfl⟩)
  go_ret
  exact ⟨rfl, rfl⟩
theorem Word_16 {k : Nat} (h : k < 16) (w : World) : Calls Tryd.prog 11 #[.int .u8 (k : Int)] w fun e w' => e = .returned (.string ⟨(wordL k).toArray⟩) ∧ w = w' := by
  have HI := Lib.hid (fun w => Itoa_16 h w)
  rcases case16 h with rfl | rfl | rfl | rfl | rfl | rfl | rfl | rfl | rfl | rfl | rfl | rfl | rfl | rfl | rfl | rfl
  all_goals
    go_enter Tryd.func11, Tryd.ntmps11
    go_wp2_with (go_at_call 25; refine (HI.out _).mono ?_; rintro e w1 ⟨rfl, rfl⟩)
    go_ret
    exact ⟨rfl, rfl⟩

/-- The first set from k on that is written so. -/
def parseP (S : List UInt8) : Nat → Nat → Nat × Int
  | 0, _ => (0, 4)
  | f + 1, k => if S = wordL k ∨ S = numL k then (k, 0) else parseP S f (k + 1)
theorem parse_step {S : List UInt8} {k : Nat} (h : k < 16) : parseP S (16 - k) k = if S = wordL k ∨ S = numL k then (k, 0) else parseP S (16 - (k + 1)) (k + 1) := by
  obtain ⟨f, hf⟩ : ∃ f, 16 - k = f + 1 := ⟨15 - k, by omega⟩
  have : 16 - (k + 1) = f := by omega
  rw [hf, this, parseP]

set_option maxHeartbeats 1000000 in
theorem Parse_any (S : List UInt8) (w : World) : Calls Tryd.prog 9 #[.string ⟨S.toArray⟩] w fun e w' => e = .returned (.tuple #[.int .u8 (parseP S 16 0).1, .int .i64 (parseP S 16 0).2]) ∧ w = w' := by
  go_enter Tryd.func9, Tryd.ntmps9
  go_wp2_with fail
  go_loop [5] (fun i => ∃ k : Nat, k ≤ 16 ∧ i = .int .u8 k ∧ Hid (parseP S 16 0 = parseP S (16 - k) k)) (fun i => 16 - (intOf i).toNat)
  case atStart => exact ⟨0, by omega, rfl, rfl⟩
  case round =>
    obtain ⟨k, hk, rfl, hH⟩ := hrel
    by_cases hlt : k < 16
    · have HW := Lib.hid (fun w => Word_16 hlt w)
      have HI := Lib.hid (fun w => Itoa_16 hlt w)
      have HS := Lib.hid (parse_step (S := S) hlt)
      obtain ⟨Wd, hWd⟩ : ∃ Wd, wordL k = Wd := ⟨_, rfl⟩
      obtain ⟨Nm, hNm⟩ : ∃ Nm, numL k = Nm := ⟨_, rfl⟩
      rw [hWd] at HW HS
      rw [hNm] at HI HS
      clear hWd hNm
      have hk15 : (k : Int) ≤ 15 := by omega
      by_cases h1 : S = Wd
      · have h1b : (S == Wd) = true := by simpa using h1
        have HR := Lib.hid (HS.out.trans (if_pos (.inl h1)))
        clear h1
        go_wp2_with (go_at_call 11; refine (HW.out _).mono ?_; rintro e w1 ⟨rfl, rfl⟩)
        go_ret2
        rw [hH.out, HR.out]
        exact ⟨rfl, rfl⟩
      · have h1b : (S == Wd) = false := by simpa using h1
        by_cases h2 : S = Nm
        · have h2b : (S == Nm) = true := by simpa using h2
          have HR := Lib.hid (HS.out.trans (if_pos (.inr h2)))
          clear h1 h2
          go_wp2_with (first
            | (go_at_call 11; refine (HW.out _).mono ?_; rintro e w1 ⟨rfl, rfl⟩)
            | (go_at_call 25; refine (HI.out _).mono ?_; rintro e w1 ⟨rfl, rfl⟩))
          go_ret2
          rw [hH.out, HR.out]
          exact ⟨rfl, rfl⟩
        · have h2b : (S == Nm) = false := by simpa using h2
          have HR := Lib.hid (HS.out.trans (if_neg (by intro h; rcases h with h | h; exact h1 h; exact h2 h)))
          clear h1 h2
          go_wp2_with (first
            | (go_at_call 11; refine (HW.out _).mono ?_; rintro e w1 ⟨rfl, rfl⟩)
            | (go_at_call 25; refine (HI.out _).mono ?_; rintro e w1 ⟨rfl, rfl⟩))
          refine ⟨⟨k + 1, by omega, by go_num, ?_⟩, by simp [intOf]; omega⟩
          show _ = _
          rw [hH.out, HR.out]
    · obtain rfl : k = 16 := by omega
      go_wp2_with fail
      go_ret2
      rw [hH.out]
      exact ⟨rfl, rfl⟩

end Go.Proofs.YtegdepimddlphaaDoor
