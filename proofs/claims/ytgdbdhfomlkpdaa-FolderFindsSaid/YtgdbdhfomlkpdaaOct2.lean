/-
  The contracts of package octet, what reads: At, TakeCount, Zig, Zag, Wrap, Bit.
-/
import Derived.Test.YtgdbdhfomlkpdaaOct
namespace Go.Proofs.Ytgdbdhfomlkpdaa
open Go.RowKit

/-- What At(b, at, k) hands back. -/
def atR (l : List UInt8) (at' k : Int) : Int × Int :=
  if k < 1 ∨ 8 < k ∨ at' < 0 then (0, 1) else if (l.length : Int) - k < at' then (0, 3) else (((beN ((l.drop at'.toNat).take k.toNat) : Nat) : Int), 0)

theorem take_snoc {l : List UInt8} {j : Nat} {x : UInt8} (h : l[j]? = some x) : l.take (j + 1) = l.take j ++ [x] := by
  obtain ⟨hj, rfl⟩ := List.getElem?_eq_some_iff.1 h
  rw [List.take_succ_eq_append_getElem hj]
theorem beN_take_lt (l : List UInt8) (j : Nat) (h : j ≤ 7) : beN (l.take j) < 72057594037927936 := by
  have h1 := beN_lt (l.take j)
  have h2 : (l.take j).length ≤ 7 := by rw [List.length_take]; omega
  have h3 : (256 : Nat) ^ (l.take j).length ≤ 256 ^ 7 := Nat.pow_le_pow_right (by omega) h2
  have h4 : (256 : Nat) ^ 7 = 72057594037927936 := by decide
  omega

set_option maxRecDepth 100000 in
set_option maxHeartbeats 400000 in
theorem TakeCount_any (A : Option Addr) (n c : Nat) (l : List UInt8) (w : World) (h : Rd w 1 A n c (l.map b8)) (hn : n ≤ 1073741824) :
    Calls Try.prog 31 #[.slice A n c] w fun e w' => e = .returned (.tuple #[.int .u64 (tcR l).1, .int .i64 (tcR l).2.1, .int .i64 (tcR l).2.2]) ∧ w = w' := by
  have hln := Lib.hid h.lenb
  go_enter Try.func31, Try.ntmps31
  go_wp2_with fail
  go_loop [5, 10] (fun v i => ∃ (j : Nat) (q : Int), j ≤ n ∧ i = .int .i64 j ∧ v = .int .u64 q ∧ 0 ≤ q ∧ Hid (j ≤ 9 ∧ q.toNat < 128 ^ j ∧ takeC (l.drop j) j q.toNat = tcR l)) (fun _ i => n - (intOf i).toNat)
  case atStart => exact ⟨0, 0, by omega, rfl, rfl, by omega, by omega, by decide, rfl⟩
  case round =>
    obtain ⟨j, q, hj, rfl, rfl, hq0, H⟩ := hrel
    by_cases hjn : j < n
    · obtain ⟨x, hx, hidx, hcell, hxb⟩ := h.byte eb hjn
      have hx0 : (0 : Int) ≤ (x.toNat : Int) := by omega
      have hj9 : j ≤ 9 := H.out.1
      have h127 := u8_and127 _ hx0 hxb
      have hst := Lib.hid (takeC_step hx.out q.toNat)
      by_cases hbad : (j = 9 ∧ 1 < x.toNat) ∨ (x.toNat = 0 ∧ 0 < j)
      · have he : tcR l = (0, 0, 4) := by rw [← H.out.2.2, hst.out, if_pos hbad]
        have He := Lib.hid he
        have hbad' : (j = 9 ∧ 1 < x.toNat) ∨ (j = 9 ∧ x.toNat = 0) ∨ (j ≠ 9 ∧ x.toNat = 0 ∧ 0 < j) := by omega
        clear hbad he hst H
        rcases hbad' with ⟨h9, h1⟩ | ⟨h9, h1⟩ | ⟨h9, h1, h2⟩
        · have h9' : ((j : Int) == 9) = true := by simp; omega
          have h2 : (1 : Int) < (x.toNat : Int) := by omega
          clear h9 h1
          go_wp2_with fail
          go_ret3
          rw [He.out]
          exact ⟨rfl, rfl⟩
        · have h9' : ((j : Int) == 9) = true := by simp; omega
          have h1' : ((x.toNat : Int) == 0) = true := by simp; omega
          have h2 : (0 : Int) < (j : Int) := by omega
          have h3 : ¬ (1 : Int) < (x.toNat : Int) := by omega
          clear h9 h1
          go_wp2_with fail
          go_ret3
          rw [He.out]
          exact ⟨rfl, rfl⟩
        · have h9' : ((j : Int) == 9) = false := by simp; omega
          have h1' : ((x.toNat : Int) == 0) = true := by simp; omega
          have h2 : (0 : Int) < (j : Int) := by omega
          clear h9 h1
          go_wp2_with fail
          go_ret3
          rw [He.out]
          exact ⟨rfl, rfl⟩
      · by_cases h128 : x.toNat < 128
        · have he : tcR l = (q.toNat + x.toNat * 128 ^ j, j + 1, 0) := by rw [← H.out.2.2, hst.out, if_neg hbad, if_pos h128]
          have hor := tc_or q x.toNat j hq0 H.out.2.1 (by omega) hj9 (by omega)
          rw [Nat.mod_eq_of_lt h128] at hor
          have He := Lib.hid he
          have Hor := Lib.hid hor
          have hgood : (j = 9 ∧ x.toNat = 1) ∨ (j ≠ 9 ∧ x.toNat = 0 ∧ j = 0) ∨ (j ≠ 9 ∧ x.toNat ≠ 0) := by omega
          clear hbad he hst H hor
          rcases hgood with ⟨h9, h1⟩ | ⟨h9, h1, h2⟩ | ⟨h9, h1⟩
          · have h9' : ((j : Int) == 9) = true := by simp; omega
            have h1' : ((x.toNat : Int) == 0) = false := by simp; omega
            have h2 : ¬ (1 : Int) < (x.toNat : Int) := by omega
            clear h9 h1
            go_wp2_with fail
            go_ret3
            rw [He.out, ← Hor.out]
            exact ⟨rfl, rfl⟩
          · have h9' : ((j : Int) == 9) = false := by simp; omega
            have h1' : ((x.toNat : Int) == 0) = true := by simp; omega
            have h3 : ¬ (0 : Int) < (j : Int) := by omega
            clear h9 h1 h2
            go_wp2_with fail
            go_ret3
            rw [He.out, ← Hor.out]
            exact ⟨rfl, rfl⟩
          · have h9' : ((j : Int) == 9) = false := by simp; omega
            have h1' : ((x.toNat : Int) == 0) = false := by simp; omega
            clear h9 h1
            go_wp2_with fail
            go_ret3
            rw [He.out, ← Hor.out]
            exact ⟨rfl, rfl⟩
        · have hor := tc_or q x.toNat j hq0 H.out.2.1 (by omega) hj9 (by omega)
          have hm : x.toNat % 128 = x.toNat - 128 := by omega
          rw [hm] at hor
          have hnext : takeC (l.drop (j + 1)) (j + 1) (q.toNat + (x.toNat - 128) * 128 ^ j) = tcR l := by rw [← H.out.2.2, hst.out, if_neg hbad, if_neg h128]
          have hlt : q.toNat + (x.toNat - 128) * 128 ^ j < 128 ^ (j + 1) := by
            have h1 : (x.toNat - 128) * 128 ^ j ≤ 127 * 128 ^ j := Nat.mul_le_mul_right _ (by omega)
            have h2 := H.out.2.1
            rw [Nat.pow_succ]
            omega
          have Hn := Lib.hid hnext
          have Hor := Lib.hid hor
          have Hlt := Lib.hid hlt
          have h9 : j ≠ 9 := by omega
          have h9' : ((j : Int) == 9) = false := by simp; omega
          have h1' : ((x.toNat : Int) == 0) = false := by simp; omega
          have h8' : ¬ (x.toNat : Int) < 128 := by omega
          clear hbad hst H hor hm hnext hlt h128
          go_wp2_with fail
          refine ⟨⟨j + 1, _, by omega, by go_num, by rw [Hor.out], by omega, by omega, ?_, ?_⟩, by simp [intOf]; omega⟩
          · have := Hlt.out
            omega
          · simp only [Int.toNat_natCast]
            exact Hn.out
    · have he : tcR l = (0, 0, 3) := by rw [← H.out.2.2, takeC_end (by rw [hln.out]; omega)]
      have He := Lib.hid he
      clear he H
      go_wp2_with fail
      go_ret3
      rw [He.out]
      exact ⟨rfl, rfl⟩

/-! ### Numbers -/
def zigI (v : Int) : Int := if v < 0 then 2 * -(v + 1) + 1 else 2 * v
def zagI (u : Int) : Int := if u % 2 = 1 then -(u / 2) - 1 else u / 2
def wrapI (v k : Int) : Int := if k < 1 ∨ 64 < k then 0 else if v % 2 ^ k.toNat < 2 ^ (k.toNat - 1) then v % 2 ^ k.toNat else v % 2 ^ k.toNat - 2 ^ k.toNat

end Go.Proofs.Ytgdbdhfomlkpdaa
