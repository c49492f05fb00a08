/-
  The document's Print: numbers in decimal.
-/
import Derived.Test.YtogkmlodcdgegaaDoorBase
namespace Go.Proofs.YtogkmlodcdgegaaDoor
open Go.RowKit

def dgt (d : Nat) : UInt8 := UInt8.ofNat (48 + d)
theorem cat1 (x : UInt8) (T : List UInt8) : (⟨#[x]⟩ : ByteArray) ++ ⟨T.toArray⟩ = ⟨(x :: T).toArray⟩ := by
  apply ByteArray.ext
  apply Array.ext'
  simp
/-- A number's decimal digits. -/
def decL (v : Nat) : List UInt8 := if v < 10 then [dgt v] else decL (v / 10) ++ [dgt (v % 10)]
termination_by v
decreasing_by omega
theorem decL_small (v : Nat) (h : v < 10) : decL v = [dgt v] := by rw [decL, if_pos h]
theorem decL_big (v : Nat) (h : 10 ≤ v) : decL v = decL (v / 10) ++ [dgt (v % 10)] := by rw [decL, if_neg (by omega)]
def hexDigits : ByteArray := ⟨#[48, 49, 50, 51, 52, 53, 54, 55, 56, 57, 97, 98, 99, 100, 101, 102]⟩
theorem run_digit0 (W : World) : (Instr.sliceAt 9 (.string ⟨#[48, 49, 50, 51, 52, 53, 54, 55, 56, 57, 97, 98, 99, 100, 101, 102]⟩) (some (.int .i64 0)) (some (.int .i64 1)) none).run Tryd.prog W = .ok (.string ⟨#[48]⟩) W := by kernel_rfl
theorem run_digit1 (W : World) : (Instr.sliceAt 9 (.string ⟨#[48, 49, 50, 51, 52, 53, 54, 55, 56, 57, 97, 98, 99, 100, 101, 102]⟩) (some (.int .i64 1)) (some (.int .i64 2)) none).run Tryd.prog W = .ok (.string ⟨#[49]⟩) W := by kernel_rfl
theorem run_digit2 (W : World) : (Instr.sliceAt 9 (.string ⟨#[48, 49, 50, 51, 52, 53, 54, 55, 56, 57, 97, 98, 99, 100, 101, 102]⟩) (some (.int .i64 2)) (some (.int .i64 3)) none).run Tryd.prog W = .ok (.string ⟨#[50]⟩) W := by kernel_rfl
theorem run_digit3 (W : World) : (Instr.sliceAt 9 (.string ⟨#[48, 49, 50, 51, 52, 53, 54, 55, 56, 57, 97, 98, 99, 100, 101, 102]⟩) (some (.int .i64 3)) (some (.int .i64 4)) none).run Tryd.prog W = .ok (.string ⟨#[51]⟩) W := by kernel_rfl
theorem run_digit4 (W : World) : (Instr.sliceAt 9 (.string ⟨#[48, 49, 50, 51, 52, 53, 54, 55, 56, 57, 97, 98, 99, 100, 101, 102]⟩) (some (.int .i64 4)) (some (.int .i64 5)) none).run Tryd.prog W = .ok (.string ⟨#[52]⟩) W := by kernel_rfl
theorem run_digit5 (W : World) : (Instr.sliceAt 9 (.string ⟨#[48, 49, 50, 51, 52, 53, 54, 55, 56, 57, 97, 98, 99, 100, 101, 102]⟩) (some (.int .i64 5)) (some (.int .i64 6)) none).run Tryd.prog W = .ok (.string ⟨#[53]⟩) W := by kernel_rfl
theorem run_digit6 (W : World) : (Instr.sliceAt 9 (.string ⟨#[48, 49, 50, 51, 52, 53, 54, 55, 56, 57, 97, 98, 99, 100, 101, 102]⟩) (some (.int .i64 6)) (some (.int .i64 7)) none).run Tryd.prog W = .ok (.string ⟨#[54]⟩) W := by kernel_rfl
theorem run_digit7 (W : World) : (Instr.sliceAt 9 (.string ⟨#[48, 49, 50, 51, 52, 53, 54, 55, 56, 57, 97, 98, 99, 100, 101, 102]⟩) (some (.int .i64 7)) (some (.int .i64 8)) none).run Tryd.prog W = .ok (.string ⟨#[55]⟩) W := by kernel_rfl
theorem run_digit8 (W : World) : (Instr.sliceAt 9 (.string ⟨#[48, 49, 50, 51, 52, 53, 54, 55, 56, 57, 97, 98, 99, 100, 101, 102]⟩) (some (.int .i64 8)) (some (.int .i64 9)) none).run Tryd.prog W = .ok (.string ⟨#[56]⟩) W := by kernel_rfl
theorem run_digit9 (W : World) : (Instr.sliceAt 9 (.string ⟨#[48, 49, 50, 51, 52, 53, 54, 55, 56, 57, 97, 98, 99, 100, 101, 102]⟩) (some (.int .i64 9)) (some (.int .i64 10)) none).run Tryd.prog W = .ok (.string ⟨#[57]⟩) W := by kernel_rfl
theorem run_digit (d : Nat) (hd : d < 10) (W : World) : (Instr.sliceAt 9 (.string ⟨#[48, 49, 50, 51, 52, 53, 54, 55, 56, 57, 97, 98, 99, 100, 101, 102]⟩) (some (.int .i64 (d : Int))) (some (.int .i64 ((d : Int) + 1))) none).run Tryd.prog W = .ok (.string ⟨[dgt d].toArray⟩) W := by
  have h : d = 0 ∨ d = 1 ∨ d = 2 ∨ d = 3 ∨ d = 4 ∨ d = 5 ∨ d = 6 ∨ d = 7 ∨ d = 8 ∨ d = 9 := by omega
  rcases h with rfl | rfl | rfl | rfl | rfl | rfl | rfl | rfl | rfl | rfl
  · exact run_digit0 W
  · exact run_digit1 W
  · exact run_digit2 W
  · exact run_digit3 W
  · exact run_digit4 W
  · exact run_digit5 W
  · exact run_digit6 W
  · exact run_digit7 W
  · exact run_digit8 W
  · exact run_digit9 W

set_option maxRecDepth 20000 in
set_option maxHeartbeats 2000000 in
theorem Print_nonneg (v : Nat) (w : World) (hv : (v : Int) ≤ 9223372036854775806) :
    Calls Tryd.prog 30 #[.int .i64 (v : Int)] w fun e w' => e = .returned (.string ⟨(decL v).toArray⟩) ∧ w = w' := by
  have hv0 : (0 : Int) ≤ v := by omega
  go_enter Tryd.func30, Tryd.ntmps30
  go_wp2_with fail
  go_loop [0, 3, 5, 6] (fun n s i _ => ∃ (m j : Nat) (T : List UInt8), n = .int .i64 m ∧ s = .string ⟨T.toArray⟩ ∧ i = .int .i64 j ∧ j + m ≤ v + 1 ∧ T.length ≤ j ∧ Hid ((j = 0 ∧ m = v ∧ T = []) ∨ (0 < j ∧ decL v = if m = 0 then T else decL m ++ T))) (fun n _ i _ => (intOf n).toNat + (1 - (intOf i).toNat))
  case atStart => exact ⟨v, 0, [], rfl, rfl, rfl, by omega, by simp, .inl ⟨rfl, rfl, rfl⟩⟩
  case round =>
    obtain ⟨m, j, T, rfl, rfl, rfl, hjm, hTj, hH⟩ := hrel
    by_cases hgo : j = 0 ∨ m ≠ 0
    · have hm : (m : Int) ≤ 9223372036854775806 := by
        rcases hH.out with ⟨h1, h2, _⟩ | ⟨h1, _⟩ <;> omega
      obtain ⟨d, hd⟩ : ∃ d, m % 10 = d := ⟨_, rfl⟩
      obtain ⟨q, hq⟩ : ∃ q, m / 10 = q := ⟨_, rfl⟩
      have hmod : (m : Int) % 10 = (d : Int) := by omega
      have hdiv : (m : Int) / 10 = (q : Int) := by omega
      have hd10 : d < 10 := by omega
      have hd10' : (d : Int) ≤ 9 := by omega
      have hrun := run_digit d hd10
      have hnext : decL v = if q = 0 then dgt d :: T else decL q ++ (dgt d :: T) := by
        have hm2 : decL m = if q = 0 then [dgt d] else decL q ++ [dgt d] := by
          by_cases h10 : m < 10
          · rw [if_pos (by omega), decL_small m h10]
            congr 2
            omega
          · rw [if_neg (by omega), decL_big m (by omega), hq, hd]
        rcases hH.out with ⟨_, h2, h3⟩ | ⟨h1, h2⟩
        · subst h2 h3
          rw [hm2]
        · rw [h2, if_neg (by omega), hm2]
          split <;> simp
      have HNX := Lib.hid hnext
      have HQ := Lib.hid hq
      have hq2 : j + 1 + q ≤ v + 1 := by
        rcases hH.out with ⟨h1, h2, _⟩ | ⟨h1, _⟩ <;> omega
      have hq3 : q + (1 - (j + 1)) < m + (1 - j) := by omega
      clear hnext hd hq hH
      have hj2 : (j : Int) ≤ 9223372036854775806 := by omega
      have hTl : ¬ (9223372036854775807 < 1 + T.length) := by omega
      have fin : ∃ (m' j' : Nat) (T' : List UInt8), Value.int .i64 (q : Int) = .int .i64 m' ∧ Value.string (⟨#[dgt d]⟩ ++ ⟨T.toArray⟩) = .string ⟨T'.toArray⟩ ∧ Value.int .i64 ((j : Int) + 1) = .int .i64 j' ∧ j' + m' ≤ v + 1 ∧ T'.length ≤ j' ∧ Hid ((j' = 0 ∧ m' = v ∧ T' = []) ∨ (0 < j' ∧ decL v = if m' = 0 then T' else decL m' ++ T')) :=
        ⟨q, j + 1, dgt d :: T, rfl, by rw [cat1], by go_num, by omega, by simp; omega, .inr ⟨by omega, HNX.out⟩⟩
      have Fin := Lib.hid fin
      clear fin hTj hjm hq2
      by_cases hj : j = 0
      · subst hj
        go_wp2_with fail
        refine ⟨Fin.out, ?_⟩
        simp [intOf]
        omega
      · have hj0 : ((j : Int) == 0) = false := by simpa using hj
        have hm0 : ((m : Int) != 0) = true := by
          simp
          omega
        clear hj hgo
        go_wp2_with fail
        refine ⟨Fin.out, ?_⟩
        simp [intOf]
        omega
    · obtain rfl : m = 0 := by omega
      have hj1 : ((j : Int) == 0) = false := by
        simp
        omega
      have hF : decL v = T := by
        rcases hH.out with ⟨h1, _⟩ | ⟨_, h2⟩
        · omega
        · rw [h2, if_pos rfl]
      have HF := Lib.hid hF
      clear hF hH hgo hjm hTj
      go_wp2_with fail
      go_ret
      rw [HF.out]
      exact ⟨rfl, rfl⟩

end Go.Proofs.YtogkmlodcdgegaaDoor
