/-
  The contracts of the document's answer to octet, the last: Wrap, Bit, SetBit.
-/
import Derived.Test.YtmomebanpobbgaaRefC
namespace Go.Proofs.Ytmomebanpobbgaa
open Go.RowKit

set_option maxHeartbeats 400000 in
theorem RWrap_any (v k : Int) (w : World) (h0 : 0 ≤ v) (h1 : v ≤ 18446744073709551615) (hk0 : -9223372036854775808 ≤ k) (hk1 : k ≤ 9223372036854775807) :
    Calls Try.prog 19 #[.int .u64 v, .int .i64 k] w fun e w' => e = .returned (.int .i64 (wrapI v k)) ∧ w = w' := by
  by_cases hk : k < 1 ∨ 64 < k
  · have e : wrapI v k = 0 := if_pos hk
    rw [e]
    rcases hk with hk | hk
    all_goals
      go_enter Try.func19, Try.ntmps19
      go_wp2_with fail
      go_ret
      exact ⟨rfl, rfl⟩
  · have hk2 : 1 ≤ k := by omega
    have hk3 : k ≤ 64 := by omega
    have He := Lib.hid (show wrapI v k = _ from if_neg hk)
    clear hk hk0 hk1
    obtain ⟨K, rfl⟩ := Int.eq_ofNat_of_zero_le (show 0 ≤ k by omega)
    go_enter Try.func19, Try.ntmps19
    go_wp2_with fail
    go_loop [5, 6] (fun x i => ∃ (j : Nat) (q : Int), 1 ≤ j ∧ j ≤ K ∧ i = .int .i64 j ∧ x = .int .u64 q ∧ 1 ≤ q ∧ Hid (q = 2 ^ (j - 1))) (fun _ i => K - (intOf i).toNat)
    case atStart => exact ⟨1, 1, by omega, by omega, rfl, rfl, by omega, rfl⟩
    case round =>
      obtain ⟨j, q, hj1, hj, rfl, rfl, hq1, hq⟩ := hrel
      by_cases hjn : j < K
      · have hqb : q ≤ 4611686018427387904 := by
          have h1 : (2 : Nat) ^ (j - 1) ≤ 2 ^ 62 := Nat.pow_le_pow_right (by omega) (by omega)
          have h2 : q = ((2 ^ (j - 1) : Nat) : Int) := by rw [hq.out, Int.natCast_pow]; rfl
          have h3 : (2 : Nat) ^ 62 = 4611686018427387904 := by decide
          omega
        go_wp2_with fail
        refine ⟨⟨j + 1, q * 2, by omega, by omega, by go_num, rfl, by omega, ?_⟩, by simp [intOf]; omega⟩
        show _ = _
        rw [hq.out, show j + 1 - 1 = (j - 1) + 1 by omega, Int.pow_succ]
      · have e : j = K := by omega
        subst e
        have hq' : q = 2 ^ (j - 1) := hq.out
        have h2q : (2 : Int) ^ j = 2 * q := by
          have e1 : j = (j - 1) + 1 := by omega
          have e2 : (2 : Int) ^ ((j - 1) + 1) = 2 * q := by rw [Int.pow_succ, hq']; omega
          rw [← e1] at e2
          exact e2
        have hw := He.out
        rw [Int.toNat_natCast, h2q, ← hq'] at hw
        have hnat : q = ((2 ^ (j - 1) : Nat) : Int) := by rw [hq', Int.natCast_pow]; rfl
        have hqb : q ≤ 9223372036854775808 := by
          have h1 : (2 : Nat) ^ (j - 1) ≤ 2 ^ 63 := Nat.pow_le_pow_right (by omega) (by omega)
          have h3 : (2 : Nat) ^ 63 = 9223372036854775808 := by decide
          omega
        have hm0 : 0 ≤ v % (2 * q) := Int.emod_nonneg _ (by omega)
        have hm1 : v % (2 * q) < 2 * q := Int.emod_lt_of_pos _ (by omega)
        by_cases h64 : (j : Int) < 64
        · have hqb2 : q ≤ 4611686018427387904 := by
            have h1 : (2 : Nat) ^ (j - 1) ≤ 2 ^ 62 := Nat.pow_le_pow_right (by omega) (by omega)
            have h3 : (2 : Nat) ^ 62 = 4611686018427387904 := by decide
            omega
          have Hw := Lib.hid hw
          clear hw hnat h2q hq' He hq
          by_cases hc : v % (2 * q) < q
          · go_wp2_with fail
            go_ret
            refine ⟨?_, rfl⟩
            rw [Hw.out, if_pos hc]
            rfl
          · go_wp2_with fail
            go_ret
            refine ⟨?_, rfl⟩
            rw [Hw.out, if_neg (by omega)]
            show Ending.returned (Value.int IntKind.i64 _) = _
            congr 2
            omega
        · have hq3 : q = 9223372036854775808 := by
            have e : j - 1 = 63 := by omega
            rw [hq', e]
            decide
          have hv : v % (2 * q) = v := by rw [hq3]; omega
          rw [hv] at hw
          have Hw := Lib.hid hw
          have hq4 : v - q ≤ 9223372036854775807 := by omega
          clear hw hnat h2q hq' He hq hq3 hv hm0 hm1
          by_cases hc : v < q
          · go_wp2_with fail
            go_ret
            refine ⟨?_, rfl⟩
            rw [Hw.out, if_pos hc]
            rfl
          · go_wp2_with fail
            go_ret
            refine ⟨?_, rfl⟩
            rw [Hw.out, if_neg (by omega)]
            show Ending.returned (Value.int IntKind.i64 _) = _
            congr 2
            omega

set_option maxHeartbeats 400000 in
theorem RBit_any (A : Option Addr) (n c : Nat) (l : List UInt8) (k : Int) (w : World) (h : Rd w 1 A n c (l.map b8)) (hn : n ≤ 1073741824) (hk : k ≤ 9223372036854775807) (hk0 : -9223372036854775808 ≤ k) :
    Calls Try.prog 28 #[.slice A n c, .int .i64 k] w fun e w' => e = .returned (.tuple #[.bool (bitR l k).1, .int .i64 (bitR l k).2]) ∧ w = w' := by
  have hln := h.lenb
  by_cases hb : k < 0 ∨ (n : Int) ≤ k / 8
  · have e : bitR l k = (false, 1) := if_pos (by omega)
    rw [e]
    clear hln e
    have hb' : k < 0 ∨ (0 ≤ k ∧ (n : Int) ≤ k / 8) := by omega
    clear hb
    rcases hb' with hb | ⟨hb1, hb⟩
    all_goals
      go_enter Try.func28, Try.ntmps28
      go_wp2_with fail
      go_ret2
      exact ⟨rfl, rfl⟩
  · have h1 : 0 ≤ k := by omega
    have h8 : k / 8 < n := by omega
    obtain ⟨x, hx, hidx, hcell, hxb⟩ := h.byteAt eb (k / 8) (k / 8).toNat (by omega) (by omega)
    have e : bitR l k = (x.toNat / 2 ^ (k % 8).toNat % 2 == 1, 0) := by
      unfold bitR
      rw [if_neg (by omega), getD_of hx.out]
    have He := Lib.hid e
    clear e hb hln
    obtain ⟨N, hN⟩ : ∃ N, (k % 8).toNat = N := ⟨_, rfl⟩
    have hN1 : (N : Int) ≤ k % 8 := by omega
    have hN2 : k % 8 ≤ (N : Int) := by omega
    have HN := Lib.hid hN
    clear hN
    go_enter Try.func28, Try.ntmps28
    go_wp2_with fail
    go_loop [6, 7] (fun v i => ∃ (j : Nat) (q : Int), j ≤ N ∧ i = .int .i64 j ∧ v = .int .i64 q ∧ 0 ≤ q ∧ q ≤ 255 ∧ Hid (q = ((x.toNat / 2 ^ j : Nat) : Int))) (fun _ i => N - (intOf i).toNat)
    case atStart => exact ⟨0, x.toNat, by omega, rfl, rfl, by omega, by omega, by simp [Hid]⟩
    case round =>
      obtain ⟨j, q, hj, rfl, rfl, hq0, hq1, hq⟩ := hrel
      by_cases hjn : j < N
      · go_wp2_with fail
        refine ⟨⟨j + 1, q / 2, by omega, by go_num, rfl, by omega, by omega, ?_⟩, by simp [intOf]; omega⟩
        show _ = _
        rw [hq.out, Nat.pow_succ, ← Nat.div_div_eq_div_mul]
        omega
      · have ej : j = N := by omega
        subst ej
        go_wp2_with fail
        go_ret2
        refine ⟨?_, rfl⟩
        rw [He.out, HN.out]
        have hqq := hq.out
        have e2 : (q % 2 == 1) = (x.toNat / 2 ^ j % 2 == 1) := by
          rw [Bool.eq_iff_iff]
          simp only [beq_iff_eq]
          omega
        show Ending.returned (.tuple #[.bool (q % 2 == 1), .int .i64 0]) = _
        rw [e2]

end Go.Proofs.Ytmomebanpobbgaa
