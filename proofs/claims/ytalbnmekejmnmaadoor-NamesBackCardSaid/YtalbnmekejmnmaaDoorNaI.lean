/-
  Package names: the document's digit.
-/
import Derived.Test.YtalbnmekejmnmaaDoorNaH
namespace Go.Proofs.YtalbnmekejmnmaaDoor
open Go.RowKit

theorem halfI_range (x : Int) : halfI x = -1 ∨ (0 ≤ halfI x ∧ halfI x ≤ 15) := by
  unfold halfI
  split
  · omega
  · split <;> omega
theorem halfI_next {x : Int} {k c : Int} (hk : 0 ≤ k) (hc : c = if k < 10 then 48 + k else 87 + k) (h : halfI x = -1 ∨ k ≤ halfI x) (hne : x ≠ c) : halfI x = -1 ∨ k + 1 ≤ halfI x := by
  rcases h with h | h
  · exact .inl h
  · refine .inr ?_
    have : halfI x ≠ k := by
      intro e
      unfold halfI at e
      split at e
      · split at hc <;> omega
      · split at e <;> split at hc <;> omega
    omega

set_option maxRecDepth 20000 in
set_option maxHeartbeats 2000000 in
theorem RDigit_any (x : Int) (h0 : 0 ≤ x) (h1 : x ≤ 255) (w : World) : Calls Tryd.prog 27 #[.int .u8 x] w fun e w' => e = .returned (.int .i64 (halfI x)) ∧ w = w' := by
  go_enter Tryd.func27, Tryd.ntmps27
  go_wp2_with fail
  go_loop [3] (fun i => ∃ k : Nat, k ≤ 16 ∧ i = .int .i64 k ∧ Hid (halfI x = -1 ∨ (k : Int) ≤ halfI x)) (fun i => 16 - (intOf i).toNat)
  case atStart => exact ⟨0, by omega, rfl, (show _ ∨ _ from by rcases halfI_range x with h | h <;> omega)⟩
  case round =>
    obtain ⟨k, hk, rfl, hH⟩ := hrel
    have hcs : k = 0 ∨ k = 1 ∨ k = 2 ∨ k = 3 ∨ k = 4 ∨ k = 5 ∨ k = 6 ∨ k = 7 ∨ k = 8 ∨ k = 9 ∨ k = 10 ∨ k = 11 ∨ k = 12 ∨ k = 13 ∨ k = 14 ∨ k = 15 ∨ k = 16 := by omega
    rcases hcs with rfl | rfl | rfl | rfl | rfl | rfl | rfl | rfl | rfl | rfl | rfl | rfl | rfl | rfl | rfl | rfl | rfl
    · by_cases hx : x = 48
      · subst hx
        have HE := Lib.hid (show halfI 48 = 0 by decide)
        have hx1 : (((⟨#[48, 49, 50, 51, 52, 53, 54, 55, 56, 57, 97, 98, 99, 100, 101, 102]⟩ : ByteArray)[0]'(by decide)).toNat : Int) = 48 := by rfl
        clear hH
        go_wp2_with fail
        go_ret
        rw [HE.out]
        exact ⟨rfl, rfl⟩
      · have HN := Lib.hid (halfI_next (k := 0) (c := 48) (by omega) (by rfl) hH.out hx)
        have hx1 : ((((⟨#[48, 49, 50, 51, 52, 53, 54, 55, 56, 57, 97, 98, 99, 100, 101, 102]⟩ : ByteArray)[0]'(by decide)).toNat : Int) == x) = false := by
          show ((48 : Int) == x) = false
          simp
          omega
        clear hx
        go_wp2_with fail
        exact ⟨⟨1, by omega, by go_num, HN.out⟩, by decide⟩
    · by_cases hx : x = 49
      · subst hx
        have HE := Lib.hid (show halfI 49 = 1 by decide)
        have hx1 : (((⟨#[48, 49, 50, 51, 52, 53, 54, 55, 56, 57, 97, 98, 99, 100, 101, 102]⟩ : ByteArray)[1]'(by decide)).toNat : Int) = 49 := by rfl
        clear hH
        go_wp2_with fail
        go_ret
        rw [HE.out]
        exact ⟨rfl, rfl⟩
      · have HN := Lib.hid (halfI_next (k := 1) (c := 49) (by omega) (by rfl) hH.out hx)
        have hx1 : ((((⟨#[48, 49, 50, 51, 52, 53, 54, 55, 56, 57, 97, 98, 99, 100, 101, 102]⟩ : ByteArray)[1]'(by decide)).toNat : Int) == x) = false := by
          show ((49 : Int) == x) = false
          simp
          omega
        clear hx
        go_wp2_with fail
        exact ⟨⟨2, by omega, by go_num, HN.out⟩, by decide⟩
    · by_cases hx : x = 50
      · subst hx
        have HE := Lib.hid (show halfI 50 = 2 by decide)
        have hx1 : (((⟨#[48, 49, 50, 51, 52, 53, 54, 55, 56, 57, 97, 98, 99, 100, 101, 102]⟩ : ByteArray)[2]'(by decide)).toNat : Int) = 50 := by rfl
        clear hH
        go_wp2_with fail
        go_ret
        rw [HE.out]
        exact ⟨rfl, rfl⟩
      · have HN := Lib.hid (halfI_next (k := 2) (c := 50) (by omega) (by rfl) hH.out hx)
        have hx1 : ((((⟨#[48, 49, 50, 51, 52, 53, 54, 55, 56, 57, 97, 98, 99, 100, 101, 102]⟩ : ByteArray)[2]'(by decide)).toNat : Int) == x) = false := by
          show ((50 : Int) == x) = false
          simp
          omega
        clear hx
        go_wp2_with fail
        exact ⟨⟨3, by omega, by go_num, HN.out⟩, by decide⟩
    · by_cases hx : x = 51
      · subst hx
        have HE := Lib.hid (show halfI 51 = 3 by decide)
        have hx1 : (((⟨#[48, 49, 50, 51, 52, 53, 54, 55, 56, 57, 97, 98, 99, 100, 101, 102]⟩ : ByteArray)[3]'(by decide)).toNat : Int) = 51 := by rfl
        clear hH
        go_wp2_with fail
        go_ret
        rw [HE.out]
        exact ⟨rfl, rfl⟩
      · have HN := Lib.hid (halfI_next (k := 3) (c := 51) (by omega) (by rfl) hH.out hx)
        have hx1 : ((((⟨#[48, 49, 50, 51, 52, 53, 54, 55, 56, 57, 97, 98, 99, 100, 101, 102]⟩ : ByteArray)[3]'(by decide)).toNat : Int) == x) = false := by
          show ((51 : Int) == x) = false
          simp
          omega
        clear hx
        go_wp2_with fail
        exact ⟨⟨4, by omega, by go_num, HN.out⟩, by decide⟩
    · by_cases hx : x = 52
      · subst hx
        have HE := Lib.hid (show halfI 52 = 4 by decide)
        have hx1 : (((⟨#[48, 49, 50, 51, 52, 53, 54, 55, 56, 57, 97, 98, 99, 100, 101, 102]⟩ : ByteArray)[4]'(by decide)).toNat : Int) = 52 := by rfl
        clear hH
        go_wp2_with fail
        go_ret
        rw [HE.out]
        exact ⟨rfl, rfl⟩
      · have HN := Lib.hid (halfI_next (k := 4) (c := 52) (by omega) (by rfl) hH.out hx)
        have hx1 : ((((⟨#[48, 49, 50, 51, 52, 53, 54, 55, 56, 57, 97, 98, 99, 100, 101, 102]⟩ : ByteArray)[4]'(by decide)).toNat : Int) == x) = false := by
          show ((52 : Int) == x) = false
          simp
          omega
        clear hx
        go_wp2_with fail
        exact ⟨⟨5, by omega, by go_num, HN.out⟩, by decide⟩
    · by_cases hx : x = 53
      · subst hx
        have HE := Lib.hid (show halfI 53 = 5 by decide)
        have hx1 : (((⟨#[48, 49, 50, 51, 52, 53, 54, 55, 56, 57, 97, 98, 99, 100, 101, 102]⟩ : ByteArray)[5]'(by decide)).toNat : Int) = 53 := by rfl
        clear hH
        go_wp2_with fail
        go_ret
        rw [HE.out]
        exact ⟨rfl, rfl⟩
      · have HN := Lib.hid (halfI_next (k := 5) (c := 53) (by omega) (by rfl) hH.out hx)
        have hx1 : ((((⟨#[48, 49, 50, 51, 52, 53, 54, 55, 56, 57, 97, 98, 99, 100, 101, 102]⟩ : ByteArray)[5]'(by decide)).toNat : Int) == x) = false := by
          show ((53 : Int) == x) = false
          simp
          omega
        clear hx
        go_wp2_with fail
        exact ⟨⟨6, by omega, by go_num, HN.out⟩, by decide⟩
    · by_cases hx : x = 54
      · subst hx
        have HE := Lib.hid (show halfI 54 = 6 by decide)
        have hx1 : (((⟨#[48, 49, 50, 51, 52, 53, 54, 55, 56, 57, 97, 98, 99, 100, 101, 102]⟩ : ByteArray)[6]'(by decide)).toNat : Int) = 54 := by rfl
        clear hH
        go_wp2_with fail
        go_ret
        rw [HE.out]
        exact ⟨rfl, rfl⟩
      · have HN := Lib.hid (halfI_next (k := 6) (c := 54) (by omega) (by rfl) hH.out hx)
        have hx1 : ((((⟨#[48, 49, 50, 51, 52, 53, 54, 55, 56, 57, 97, 98, 99, 100, 101, 102]⟩ : ByteArray)[6]'(by decide)).toNat : Int) == x) = false := by
          show ((54 : Int) == x) = false
          simp
          omega
        clear hx
        go_wp2_with fail
        exact ⟨⟨7, by omega, by go_num, HN.out⟩, by decide⟩
    · by_cases hx : x = 55
      · subst hx
        have HE := Lib.hid (show halfI 55 = 7 by decide)
        have hx1 : (((⟨#[48, 49, 50, 51, 52, 53, 54, 55, 56, 57, 97, 98, 99, 100, 101, 102]⟩ : ByteArray)[7]'(by decide)).toNat : Int) = 55 := by rfl
        clear hH
        go_wp2_with fail
        go_ret
        rw [HE.out]
        exact ⟨rfl, rfl⟩
      · have HN := Lib.hid (halfI_next (k := 7) (c := 55) (by omega) (by rfl) hH.out hx)
        have hx1 : ((((⟨#[48, 49, 50, 51, 52, 53, 54, 55, 56, 57, 97, 98, 99, 100, 101, 102]⟩ : ByteArray)[7]'(by decide)).toNat : Int) == x) = false := by
          show ((55 : Int) == x) = false
          simp
          omega
        clear hx
        go_wp2_with fail
        exact ⟨⟨8, by omega, by go_num, HN.out⟩, by decide⟩
    · by_cases hx : x = 56
      · subst hx
        have HE := Lib.hid (show halfI 56 = 8 by decide)
        have hx1 : (((⟨#[48, 49, 50, 51, 52, 53, 54, 55, 56, 57, 97, 98, 99, 100, 101, 102]⟩ : ByteArray)[8]'(by decide)).toNat : Int) = 56 := by rfl
        clear hH
        go_wp2_with fail
        go_ret
        rw [HE.out]
        exact ⟨rfl, rfl⟩
      · have HN := Lib.hid (halfI_next (k := 8) (c := 56) (by omega) (by rfl) hH.out hx)
        have hx1 : ((((⟨#[48, 49, 50, 51, 52, 53, 54, 55, 56, 57, 97, 98, 99, 100, 101, 102]⟩ : ByteArray)[8]'(by decide)).toNat : Int) == x) = false := by
          show ((56 : Int) == x) = false
          simp
          omega
        clear hx
        go_wp2_with fail
        exact ⟨⟨9, by omega, by go_num, HN.out⟩, by decide⟩
    · by_cases hx : x = 57
      · subst hx
        have HE := Lib.hid (show halfI 57 = 9 by decide)
        have hx1 : (((⟨#[48, 49, 50, 51, 52, 53, 54, 55, 56, 57, 97, 98, 99, 100, 101, 102]⟩ : ByteArray)[9]'(by decide)).toNat : Int) = 57 := by rfl
        clear hH
        go_wp2_with fail
        go_ret
        rw [HE.out]
        exact ⟨rfl, rfl⟩
      · have HN := Lib.hid (halfI_next (k := 9) (c := 57) (by omega) (by rfl) hH.out hx)
        have hx1 : ((((⟨#[48, 49, 50, 51, 52, 53, 54, 55, 56, 57, 97, 98, 99, 100, 101, 102]⟩ : ByteArray)[9]'(by decide)).toNat : Int) == x) = false := by
          show ((57 : Int) == x) = false
          simp
          omega
        clear hx
        go_wp2_with fail
        exact ⟨⟨10, by omega, by go_num, HN.out⟩, by decide⟩
    · by_cases hx : x = 97
      · subst hx
        have HE := Lib.hid (show halfI 97 = 10 by decide)
        have hx1 : (((⟨#[48, 49, 50, 51, 52, 53, 54, 55, 56, 57, 97, 98, 99, 100, 101, 102]⟩ : ByteArray)[10]'(by decide)).toNat : Int) = 97 := by rfl
        clear hH
        go_wp2_with fail
        go_ret
        rw [HE.out]
        exact ⟨rfl, rfl⟩
      · have HN := Lib.hid (halfI_next (k := 10) (c := 97) (by omega) (by rfl) hH.out hx)
        have hx1 : ((((⟨#[48, 49, 50, 51, 52, 53, 54, 55, 56, 57, 97, 98, 99, 100, 101, 102]⟩ : ByteArray)[10]'(by decide)).toNat : Int) == x) = false := by
          show ((97 : Int) == x) = false
          simp
          omega
        clear hx
        go_wp2_with fail
        exact ⟨⟨11, by omega, by go_num, HN.out⟩, by decide⟩
    · by_cases hx : x = 98
      · subst hx
        have HE := Lib.hid (show halfI 98 = 11 by decide)
        have hx1 : (((⟨#[48, 49, 50, 51, 52, 53, 54, 55, 56, 57, 97, 98, 99, 100, 101, 102]⟩ : ByteArray)[11]'(by decide)).toNat : Int) = 98 := by rfl
        clear hH
        go_wp2_with fail
        go_ret
        rw [HE.out]
        exact ⟨rfl, rfl⟩
      · have HN := Lib.hid (halfI_next (k := 11) (c := 98) (by omega) (by rfl) hH.out hx)
        have hx1 : ((((⟨#[48, 49, 50, 51, 52, 53, 54, 55, 56, 57, 97, 98, 99, 100, 101, 102]⟩ : ByteArray)[11]'(by decide)).toNat : Int) == x) = false := by
          show ((98 : Int) == x) = false
          simp
          omega
        clear hx
        go_wp2_with fail
        exact ⟨⟨12, by omega, by go_num, HN.out⟩, by decide⟩
    · by_cases hx : x = 99
      · subst hx
        have HE := Lib.hid (show halfI 99 = 12 by decide)
        have hx1 : (((⟨#[48, 49, 50, 51, 52, 53, 54, 55, 56, 57, 97, 98, 99, 100, 101, 102]⟩ : ByteArray)[12]'(by decide)).toNat : Int) = 99 := by rfl
        clear hH
        go_wp2_with fail
        go_ret
        rw [HE.out]
        exact ⟨rfl, rfl⟩
      · have HN := Lib.hid (halfI_next (k := 12) (c := 99) (by omega) (by rfl) hH.out hx)
        have hx1 : ((((⟨#[48, 49, 50, 51, 52, 53, 54, 55, 56, 57, 97, 98, 99, 100, 101, 102]⟩ : ByteArray)[12]'(by decide)).toNat : Int) == x) = false := by
          show ((99 : Int) == x) = false
          simp
          omega
        clear hx
        go_wp2_with fail
        exact ⟨⟨13, by omega, by go_num, HN.out⟩, by decide⟩
    · by_cases hx : x = 100
      · subst hx
        have HE := Lib.hid (show halfI 100 = 13 by decide)
        have hx1 : (((⟨#[48, 49, 50, 51, 52, 53, 54, 55, 56, 57, 97, 98, 99, 100, 101, 102]⟩ : ByteArray)[13]'(by decide)).toNat : Int) = 100 := by rfl
        clear hH
        go_wp2_with fail
        go_ret
        rw [HE.out]
        exact ⟨rfl, rfl⟩
      · have HN := Lib.hid (halfI_next (k := 13) (c := 100) (by omega) (by rfl) hH.out hx)
        have hx1 : ((((⟨#[48, 49, 50, 51, 52, 53, 54, 55, 56, 57, 97, 98, 99, 100, 101, 102]⟩ : ByteArray)[13]'(by decide)).toNat : Int) == x) = false := by
          show ((100 : Int) == x) = false
          simp
          omega
        clear hx
        go_wp2_with fail
        exact ⟨⟨14, by omega, by go_num, HN.out⟩, by decide⟩
    · by_cases hx : x = 101
      · subst hx
        have HE := Lib.hid (show halfI 101 = 14 by decide)
        have hx1 : (((⟨#[48, 49, 50, 51, 52, 53, 54, 55, 56, 57, 97, 98, 99, 100, 101, 102]⟩ : ByteArray)[14]'(by decide)).toNat : Int) = 101 := by rfl
        clear hH
        go_wp2_with fail
        go_ret
        rw [HE.out]
        exact ⟨rfl, rfl⟩
      · have HN := Lib.hid (halfI_next (k := 14) (c := 101) (by omega) (by rfl) hH.out hx)
        have hx1 : ((((⟨#[48, 49, 50, 51, 52, 53, 54, 55, 56, 57, 97, 98, 99, 100, 101, 102]⟩ : ByteArray)[14]'(by decide)).toNat : Int) == x) = false := by
          show ((101 : Int) == x) = false
          simp
          omega
        clear hx
        go_wp2_with fail
        exact ⟨⟨15, by omega, by go_num, HN.out⟩, by decide⟩
    · by_cases hx : x = 102
      · subst hx
        have HE := Lib.hid (show halfI 102 = 15 by decide)
        have hx1 : (((⟨#[48, 49, 50, 51, 52, 53, 54, 55, 56, 57, 97, 98, 99, 100, 101, 102]⟩ : ByteArray)[15]'(by decide)).toNat : Int) = 102 := by rfl
        clear hH
        go_wp2_with fail
        go_ret
        rw [HE.out]
        exact ⟨rfl, rfl⟩
      · have HN := Lib.hid (halfI_next (k := 15) (c := 102) (by omega) (by rfl) hH.out hx)
        have hx1 : ((((⟨#[48, 49, 50, 51, 52, 53, 54, 55, 56, 57, 97, 98, 99, 100, 101, 102]⟩ : ByteArray)[15]'(by decide)).toNat : Int) == x) = false := by
          show ((102 : Int) == x) = false
          simp
          omega
        clear hx
        go_wp2_with fail
        exact ⟨⟨16, by omega, by go_num, HN.out⟩, by decide⟩
    · have HE : Hid (halfI x = -1) := (show _ = _ from by rcases halfI_range x with h | h <;> rcases hH.out with h2 | h2 <;> omega)
      go_wp2_with fail
      go_ret
      rw [HE.out]
      exact ⟨rfl, rfl⟩

end Go.Proofs.YtalbnmekejmnmaaDoor
