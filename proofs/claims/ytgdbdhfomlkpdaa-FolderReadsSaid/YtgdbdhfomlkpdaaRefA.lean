/-
  The contracts of the document's answer to octet (package cofferref1): each function hands back what octet's does. Put, At, Count, Text, Zig, Zag.
-/
import Derived.Test.YtgdbdhfomlkpdaaOct3
namespace Go.Proofs.Ytgdbdhfomlkpdaa
open Go.RowKit

theorem shr_eq (v k : Int) (hv : 0 ≤ v) (hk : 0 ≤ k) : v / 2 ^ (8 * k).toNat = ((v.toNat / 256 ^ k.toNat : Nat) : Int) := by
  obtain ⟨V, rfl⟩ := Int.eq_ofNat_of_zero_le hv
  obtain ⟨K, rfl⟩ := Int.eq_ofNat_of_zero_le hk
  have e : (8 * (K : Int)).toNat = 8 * K := by omega
  have e2 : (256 : Nat) ^ K = 2 ^ (8 * K) := by rw [Nat.pow_mul]
  rw [e]
  simp only [Int.toNat_natCast]
  rw [e2, Int.natCast_ediv, Int.natCast_pow]
  rfl
theorem putR_eq (l : List UInt8) (v k : Int) (hv0 : 0 ≤ v) (hv : v ≤ 18446744073709551615) (h1 : 1 ≤ k) (h8 : k ≤ 8) :
    putR l v k = if v.toNat / 256 ^ k.toNat ≠ 0 then ([], 2) else (l ++ putB v.toNat k.toNat, 0) := by
  unfold putR
  rw [if_neg (by omega), shr_eq v k hv0 (by omega)]
  by_cases h : k < 8
  · by_cases h0 : v.toNat / 256 ^ k.toNat = 0
    · rw [h0]; simp
    · have : (((v.toNat / 256 ^ k.toNat : Nat) : Int) != 0) = true := by generalize v.toNat / 256 ^ k.toNat = y at *; simp; omega
      rw [if_pos ⟨h, this⟩, if_pos h0]
  · have e : k = 8 := by omega
    subst e
    have e0 : v.toNat / 256 ^ (8 : Int).toNat = 0 := by
      have : (256 : Nat) ^ (8 : Int).toNat = 18446744073709551616 := by decide
      rw [this]
      omega
    rw [e0]
    simp

theorem byte_mod (q : Int) (h0 : 0 ≤ q) : Value.int .u8 (q % 256) = b8 (UInt8.ofNat q.toNat) := by
  rw [b8_ofNat]
  congr 1
  omega

end Go.Proofs.Ytgdbdhfomlkpdaa
