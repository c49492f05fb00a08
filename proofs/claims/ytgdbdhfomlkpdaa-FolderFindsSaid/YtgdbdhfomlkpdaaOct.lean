/-
  The contracts of package octet: what each of its functions does to bytes, as plain functions on lists of bytes.
-/
import Derived.Test.YtgdbdhfomlkpdaaElem
namespace Go.Proofs.Ytgdbdhfomlkpdaa
open Go.RowKit

/-- own(b, n): a copy of b. -/
theorem own_any (A : Option Addr) (n c : Nat) (l : List UInt8) (m : Int) (w : World) (h : Rd w 1 A n c (l.map b8)) (hn : n ≤ 1073741824) (h0 : 0 ≤ m) (h1 : m ≤ 1073741824) :
    Calls Try.prog 38 #[.slice A n c, .int .i64 m] w fun e w' => ∃ A' c', e = .returned (.slice A' n c') ∧ Own w' w.heap.size 5 1 A' n c' (l.map b8) ∧ Below w.heap.size w w' := by
  go_enter Try.func38, Try.ntmps38
  go_wp2_with (first
    | (at_make
       refine wpList_mk rfl _ _ rfl eb rfl rfl 0 (n + m.toNat) (by omega) (by omega) (by omega) (by omega) (by unfold maxLen; omega) (Nat.le_refl _) ?_
       intro w1 ho1 hg1 hz1)
    | (at_builtin
       refine wpList_app rfl _ _ rfl eb ho1 rfl (h.grown hg1 (by simp)) rfl (b8_one _) (by omega) (by unfold maxLen; omega) hg1.size ?_
       intro A' c' w2 ho2 hg2 hb2))
  go_ret
  exact ⟨A', c', rfl, by simpa [madeCells] using ho2, (Below.refl _ _).grown hg1 (Nat.le_refl _) (by simp) |>.grown hg2 hg1.size (fun g hg => (ho1.lt g hg).1)⟩

theorem put_snoc (l : List UInt8) (v k q : Int) (hv : 0 ≤ v) (hq : 0 ≤ q) (hk : q < k) :
    List.map b8 (l ++ putB (v.toNat / 256 ^ (q + 1).toNat) (k.toNat - (q + 1).toNat)) ++ [Value.int IntKind.u8 (v / 2 ^ (8 * q).toNat % 256)] =
      List.map b8 (l ++ putB (v.toNat / 256 ^ (q - 1 + 1).toNat) (k.toNat - (q - 1 + 1).toNat)) := by
  obtain ⟨V, rfl⟩ := Int.eq_ofNat_of_zero_le hv
  obtain ⟨j, rfl⟩ := Int.eq_ofNat_of_zero_le hq
  obtain ⟨K, rfl⟩ := Int.eq_ofNat_of_zero_le (show 0 ≤ k by omega)
  have e1 : ((j : Int) + 1).toNat = j + 1 := by omega
  have e2 : ((j : Int) - 1 + 1).toNat = j := by omega
  have e3 : (8 * (j : Int)).toNat = 8 * j := by omega
  rw [e1, e2, e3]
  simp only [Int.toNat_natCast]
  rw [putB_step V K j (by omega)]
  have e4 : ((V : Int) / 2 ^ (8 * j) % 256) = ((V / 256 ^ j % 256 : Nat) : Int) := by
    have : (256 : Nat) ^ j = 2 ^ (8 * j) := by rw [Nat.pow_mul]
    rw [this, Int.natCast_emod, Int.natCast_ediv, Int.natCast_pow]
    rfl
  rw [e4, ← b8_ofNat]
  simp only [List.map_append, List.append_assoc, List.map_cons, List.map_nil]

/-- What Put(b, v, k) hands back: bytes, and the error's number. -/
def putR (l : List UInt8) (v k : Int) : List UInt8 × Int :=
  if k < 1 ∨ 8 < k then ([], 1) else if k < 8 ∧ (v / 2 ^ (8 * k).toNat != 0) = true then ([], 2) else (l ++ putB v.toNat k.toNat, 0)

end Go.Proofs.Ytgdbdhfomlkpdaa
