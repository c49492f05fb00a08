/-
  Package folder: the document's MayName.
-/
import Derived.Test.YtgdbdhfomlkpdaaFoB
namespace Go.Proofs.Ytgdbdhfomlkpdaa
open Go.RowKit

theorem byte_mem {s : ByteArray} {k : Nat} (hk : k < s.size) {c : UInt8} (h : (s[k].toNat : Int) = (c.toNat : Int)) : c ∈ s.data.toList := by
  have e : s[k] = c := UInt8.toNat_inj.1 (by omega)
  rw [← e]
  exact Array.mem_toList_iff.2 (Array.getElem_mem (xs := s.data) (i := k) hk)
theorem byte_not {s : ByteArray} {c : UInt8} (h : ∀ k (hk : k < s.size), (s[k].toNat : Int) ≠ (c.toNat : Int)) : c ∉ s.data.toList := by
  intro hc
  obtain ⟨k, hk, e⟩ := List.getElem_of_mem hc
  have hk' : k < s.size := by simpa using hk
  refine h k hk' ?_
  have : s[k] = s.data.toList[k] := rfl
  rw [this, e]

set_option maxRecDepth 20000 in
set_option maxHeartbeats 2000000 in
theorem RMayName_any (s : ByteArray) (hsz : (s.size : Int) ≤ 9223372036854775807) (w : World) : Calls Try.prog 22 #[.string s] w fun e w' => e = .returned (.bool (mayN s)) ∧ w = w' := by
  go_enter Try.func22, Try.ntmps22
  go_wp2_with fail
  go_loop [3] (fun i => ∃ k : Nat, k ≤ s.size ∧ i = .int .i64 k ∧ Hid (∀ j (hj : j < s.size), j < k → (s[j].toNat : Int) ≠ 47 ∧ (s[j].toNat : Int) ≠ 0)) (fun i => s.size - (intOf i).toNat)
  case atStart => exact ⟨0, by omega, rfl, (show ∀ j (hj : j < s.size), j < 0 → _ from fun j _ h => absurd h (Nat.not_lt_zero j))⟩
  case round =>
    obtain ⟨k, hk, rfl, hH⟩ := hrel
    by_cases hlt : k < s.size
    · by_cases c1 : (s[k].toNat : Int) = 47
      · have HN := Lib.hid (mayN_no (s := s) (fun h => h.2.2.2.2.1 (byte_mem hlt (c := 47) c1)))
        have c1' : ((s[k].toNat : Int) == 47) = true := by simpa using c1
        clear c1 hH
        go_wp2_with fail
        go_ret
        rw [HN.out]
        exact ⟨rfl, rfl⟩
      by_cases c2 : (s[k].toNat : Int) = 0
      · have HN := Lib.hid (mayN_no (s := s) (fun h => h.2.2.2.2.2 (byte_mem hlt (c := 0) c2)))
        have c1' : ((s[k].toNat : Int) == 47) = false := by simpa using c1
        have c2' : ((s[k].toNat : Int) == 0) = true := by simpa using c2
        clear c1 c2 hH
        go_wp2_with fail
        go_ret
        rw [HN.out]
        exact ⟨rfl, rfl⟩
      have HS : Hid (∀ j (hj : j < s.size), j < k + 1 → (s[j].toNat : Int) ≠ 47 ∧ (s[j].toNat : Int) ≠ 0) := by
        show ∀ _, _
        intro j hj hjk
        by_cases e : j = k
        · subst e
          exact ⟨c1, c2⟩
        · exact hH.out j hj (by omega)
      have c1' : ((s[k].toNat : Int) == 47) = false := by simpa using c1
      have c2' : ((s[k].toNat : Int) == 0) = false := by simpa using c2
      clear c1 c2 hH
      go_wp2_with fail
      exact ⟨⟨k + 1, by omega, by go_num, HS.out⟩, by simp [intOf]; omega⟩
    · have h5 : (47 : UInt8) ∉ s.data.toList := byte_not fun j hj => (hH.out j hj (by omega)).1
      have h6 : (0 : UInt8) ∉ s.data.toList := byte_not fun j hj => (hH.out j hj (by omega)).2
      have hk' : k = s.size := by omega
      subst hk'
      clear hH hlt hk
      by_cases h1 : (s.size : Int) < 1
      · have HN := Lib.hid (mayN_no (s := s) (fun h => by have := h.1; omega))
        clear h5 h6
        go_wp2_with fail
        go_ret
        rw [HN.out]
        exact ⟨rfl, rfl⟩
      by_cases h2 : (64 : Int) < s.size
      · have HN := Lib.hid (mayN_no (s := s) (fun h => by have := h.2.1; omega))
        have h1' : (1 : Int) ≤ s.size := by omega
        clear h1 h5 h6
        go_wp2_with fail
        go_ret
        rw [HN.out]
        exact ⟨rfl, rfl⟩
      have h1' : (1 : Int) ≤ s.size := by omega
      have h2' : (s.size : Int) ≤ 64 := by omega
      have H2 := Lib.hid h2'
      clear h1 h2
      by_cases h3 : s.data.toList = [46]
      · have HN := Lib.hid (mayN_no (s := s) (fun h => h.2.2.1 h3))
        have h3' : (s.toList == [46]) = true := by rw [ByteArray.toList_eq]; simpa using h3
        clear h3 h5 h6
        go_wp2_with fail
        go_ret
        rw [HN.out]
        exact ⟨rfl, rfl⟩
      have h3' : (s.toList == [46]) = false := by rw [ByteArray.toList_eq]; simpa using h3
      by_cases h4 : s.data.toList = [46, 46]
      · have HN := Lib.hid (mayN_no (s := s) (fun h => h.2.2.2.1 h4))
        have h4' : (s.toList == [46, 46]) = true := by rw [ByteArray.toList_eq]; simpa using h4
        clear h4 h3 h5 h6
        go_wp2_with fail
        go_ret
        rw [HN.out]
        exact ⟨rfl, rfl⟩
      have h4' : (s.toList == [46, 46]) = false := by rw [ByteArray.toList_eq]; simpa using h4
      have HN := Lib.hid (mayN_yes (s := s) ⟨by omega, by have := H2.out; omega, h3, h4, h5, h6⟩)
      clear h3 h4 h5 h6
      go_wp2_with fail
      go_ret
      rw [HN.out]
      exact ⟨rfl, rfl⟩

end Go.Proofs.Ytgdbdhfomlkpdaa
