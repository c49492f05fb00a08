/-
  cofferlaw0's Place.
-/
import Derived.Test.YtogkmlodcdgegaaDoorBase
namespace Go.Proofs.YtogkmlodcdgegaaDoor
open Go.RowKit

/-- A number from 0 to n - 1. -/
def placeP (k : Int) (n : Nat) : Nat := if n = 0 then 0 else (k % (n : Int)).toNat
theorem placeP_lt (k : Int) (n : Nat) (h : 1 ≤ n) : placeP k n < n := by
  unfold placeP
  rw [if_neg (by omega)]
  have h1 := Int.emod_nonneg k (b := (n : Int)) (by omega)
  have h2 := Int.emod_lt_of_pos k (b := (n : Int)) (by omega)
  omega
theorem place_pos (k : Int) (n : Nat) (h : 1 ≤ n) (hk : 0 ≤ k) : k.tmod n = (placeP k n : Nat) := by
  rw [Int.tmod_eq_emod_of_nonneg hk]
  unfold placeP
  rw [if_neg (by omega)]
  have h1 := Int.emod_nonneg k (b := (n : Int)) (by omega)
  omega
theorem place_neg (k : Int) (n : Nat) (h : 1 ≤ n) (hk : k < 0) : (k.tmod n = 0 ∧ placeP k n = 0) ∨ (k.tmod n < 0 ∧ -(n : Int) < k.tmod n ∧ k.tmod n + n = (placeP k n : Nat)) := by
  have e : k.tmod n = -((-k) % (n : Int)) := by
    have : k = -(-k) := by omega
    rw [this, Int.neg_tmod, Int.tmod_eq_emod_of_nonneg (by omega)]
    simp
  have h1 := Int.emod_nonneg (-k) (b := (n : Int)) (by omega)
  have h2 := Int.emod_lt_of_pos (-k) (b := (n : Int)) (by omega)
  have h3 := Int.emod_nonneg k (b := (n : Int)) (by omega)
  have h4 := Int.emod_lt_of_pos k (b := (n : Int)) (by omega)
  have h5 := Int.mul_ediv_add_emod (-k) n
  have h6 := Int.mul_ediv_add_emod k n
  rw [e]
  unfold placeP
  rw [if_neg (by omega)]
  have h7 : (n : Int) * ((-k) / n + k / n) = -((-k) % n + k % n) := by rw [Int.mul_add]; omega
  obtain ⟨q, hq⟩ : ∃ q, (-k) / (n : Int) + k / n = q := ⟨_, rfl⟩
  rw [hq] at h7
  by_cases h0 : (-k) % (n : Int) = 0
  · left
    refine ⟨by omega, ?_⟩
    have : k % (n : Int) = 0 := by
      have : q = 0 := by
        rcases Int.lt_trichotomy q 0 with hlt | h | hgt
        · have : (n : Int) * q ≤ n * (-1) := Int.mul_le_mul_of_nonneg_left (by omega) (by omega)
          omega
        · exact h
        · have : (n : Int) * 1 ≤ n * q := Int.mul_le_mul_of_nonneg_left (by omega) (by omega)
          omega
      rw [this] at h7
      omega
    omega
  · right
    refine ⟨by omega, by omega, ?_⟩
    have : q = -1 := by
      rcases Int.lt_trichotomy q (-1) with hlt | h | hgt
      · have : (n : Int) * q ≤ n * (-2) := Int.mul_le_mul_of_nonneg_left (by omega) (by omega)
        omega
      · exact h
      · have : (n : Int) * 0 ≤ n * q := Int.mul_le_mul_of_nonneg_left (by omega) (by omega)
        omega
    rw [this] at h7
    omega

theorem Place_any (k : Int) (n : Nat) (w : World) (hk0 : -9223372036854775808 ≤ k) (hk1 : k ≤ 9223372036854775807) (hn : n ≤ 1152921504606846976) :
    Calls Tryd.prog 18 #[.int .i64 k, .int .i64 (n : Int)] w fun e w' => e = .returned (.int .i64 (placeP k n : Nat)) ∧ w = w' := by
  by_cases h : 1 ≤ n
  · have hn1 : (1 : Int) ≤ n := by omega
    have hn2 : (n : Int) ≤ 1152921504606846976 := by omega
    have hlt := placeP_lt k n h
    by_cases hk : 0 ≤ k
    · have HT := Lib.hid (place_pos k n h hk)
      have hb := Int.emod_nonneg k (b := (n : Int)) (by omega)
      have HE : Hid (k % (n : Int) = (placeP k n : Nat)) := by
        show _ = _
        rw [← Int.tmod_eq_emod_of_nonneg hk]
        exact HT.out
      clear HT hlt
      go_enter Tryd.func18, Tryd.ntmps18
      go_wp2_with fail
      go_ret
      rw [HE.out]
      exact ⟨rfl, rfl⟩
    · have hk' : k < 0 := by omega
      have ht := place_neg k n h hk'
      obtain ⟨t, hT⟩ : ∃ t, k.tmod n = t := ⟨_, rfl⟩
      rw [hT] at ht
      have hrun : IntKind.i64.wrap t = t := by
        rw [IntKind.wrap_i64]
        rcases ht with ⟨h1, _⟩ | ⟨h1, h2, _⟩ <;> omega
      rcases ht with ⟨h1, h2⟩ | ⟨h1, h2, h3⟩
      · subst h1
        have HP := Lib.hid h2
        clear hk h2 hrun
        go_enter Tryd.func18, Tryd.ntmps18
        go_wp2_with fail
        go_ret
        rw [HP.out]
        exact ⟨rfl, rfl⟩
      · have H3 := Lib.hid h3
        clear hk h3 hrun
        go_enter Tryd.func18, Tryd.ntmps18
        go_wp2_with fail
        go_ret
        rw [H3.out]
        exact ⟨rfl, rfl⟩
  · obtain rfl : n = 0 := by omega
    go_enter Tryd.func18, Tryd.ntmps18
    go_wp2_with fail
    go_ret
    exact ⟨rfl, rfl⟩

end Go.Proofs.YtogkmlodcdgegaaDoor
