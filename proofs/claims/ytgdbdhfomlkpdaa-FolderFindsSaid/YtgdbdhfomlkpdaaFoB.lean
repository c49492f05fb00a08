/-
  Package folder: MayName, and the document's MayName.
-/
import Derived.Test.YtgdbdhfomlkpdaaFoA
import Derived.Test.YtgdbdhfomlkpdaaShelf
namespace Go.Proofs.Ytgdbdhfomlkpdaa
open Go.RowKit

/-- May an item have that name? -/
def nameOk (s : ByteArray) : Prop := 1 ≤ s.size ∧ s.size ≤ 64 ∧ s.data.toList ≠ [46] ∧ s.data.toList ≠ [46, 46] ∧ (47 : UInt8) ∉ s.data.toList ∧ (0 : UInt8) ∉ s.data.toList
instance (s : ByteArray) : Decidable (nameOk s) := by unfold nameOk; infer_instance
def mayN (s : ByteArray) : Bool := decide (nameOk s)
theorem mayN_no {s : ByteArray} (h : ¬ nameOk s) : mayN s = false := decide_eq_false h
theorem mayN_yes {s : ByteArray} (h : nameOk s) : mayN s = true := decide_eq_true h
theorem has_byte (s : ByteArray) (c : UInt8) : decide (0 ≤ Lib.indexByte s.data.toList c) = decide (c ∈ s.data.toList) := by
  have h0 := Lib.indexByte_ge s.data.toList c
  rw [decide_eq_decide]
  constructor
  · intro h
    obtain ⟨o, ho⟩ := Int.eq_ofNat_of_zero_le h
    exact List.mem_of_getElem? (Lib.indexByte_some ho).1
  · intro h
    by_cases hn : Lib.indexByte s.data.toList c = -1
    · obtain ⟨k, hk⟩ := List.getElem?_of_mem h
      exact absurd hk (Lib.indexByte_none hn k)
    · omega
theorem Contains_one (s : ByteArray) (c : UInt8) (w : World) : Calls Try.prog 35 #[.string s, .string ⟨#[c]⟩] w fun e w' => e = .returned (.bool (decide (c ∈ s.data.toList))) ∧ w = w' := by
  refine (Try.strings_Contains_one s c w).mono ?_
  rintro e w' ⟨rfl, rfl⟩
  rw [has_byte]
  exact ⟨rfl, rfl⟩

set_option maxRecDepth 20000 in
set_option maxHeartbeats 2000000 in
theorem MayName_any (s : ByteArray) (w : World) : Calls Try.prog 21 #[.string s] w fun e w' => e = .returned (.bool (mayN s)) ∧ w = w' := by
  by_cases h1 : (s.size : Int) < 1
  · have HN := Lib.hid (mayN_no (s := s) (fun h => by have := h.1; omega))
    go_enter Try.func21, Try.ntmps21
    go_wp2_with fail
    go_ret
    rw [HN.out]
    exact ⟨rfl, rfl⟩
  by_cases h2 : (64 : Int) < s.size
  · have HN := Lib.hid (mayN_no (s := s) (fun h => by have := h.2.1; omega))
    have h1' : (1 : Int) ≤ s.size := by omega
    clear h1
    go_enter Try.func21, Try.ntmps21
    go_wp2_with fail
    go_ret
    rw [HN.out]
    exact ⟨rfl, rfl⟩
  have h1' : (1 : Int) ≤ s.size := by omega
  have h2' : (s.size : Int) ≤ 64 := by omega
  have H2 := Lib.hid h2'
  clear h1 h2
  by_cases h3 : s.data.toList = [46]
  · have HN := Lib.hid (mayN_no (s := s) (fun h => h.2.2.1 h3))
    obtain rfl : s = ⟨#[46]⟩ := by apply ByteArray.ext; apply Array.ext'; exact h3
    clear h3
    go_enter Try.func21, Try.ntmps21
    go_wp2_with fail
    go_ret
    rw [HN.out]
    exact ⟨rfl, rfl⟩
  by_cases h4 : s.data.toList = [46, 46]
  · have HN := Lib.hid (mayN_no (s := s) (fun h => h.2.2.2.1 h4))
    obtain rfl : s = ⟨#[46, 46]⟩ := by apply ByteArray.ext; apply Array.ext'; exact h4
    clear h4 h3
    go_enter Try.func21, Try.ntmps21
    go_wp2_with fail
    go_ret
    rw [HN.out]
    exact ⟨rfl, rfl⟩
  have h3' : (s.toList == [46]) = false := by rw [ByteArray.toList_eq]; simpa using h3
  have h4' : (s.toList == [46, 46]) = false := by rw [ByteArray.toList_eq]; simpa using h4
  have H3 := Lib.hid h3
  have H4 := Lib.hid h4
  clear h3 h4
  by_cases h5 : (47 : UInt8) ∈ s.data.toList
  · have HN := Lib.hid (mayN_no (s := s) (fun h => h.2.2.2.2.1 h5))
    have HC := Lib.hid (Contains_one s 47)
    rw [decide_eq_true h5] at HC
    clear h5
    go_enter Try.func21, Try.ntmps21
    go_wp2_with fail
    refine (HC.out _).mono ?_
    rintro e w1 ⟨rfl, rfl⟩
    go_wp2_with fail
    go_ret
    rw [HN.out]
    exact ⟨rfl, rfl⟩
  by_cases h6 : (0 : UInt8) ∈ s.data.toList
  · have HN := Lib.hid (mayN_no (s := s) (fun h => h.2.2.2.2.2 h6))
    have HC := Lib.hid (Contains_one s 47)
    rw [decide_eq_false h5] at HC
    have HD := Lib.hid (Contains_one s 0)
    rw [decide_eq_true h6] at HD
    clear h5 h6
    go_enter Try.func21, Try.ntmps21
    go_wp2_with fail
    refine (HC.out _).mono ?_
    rintro e w1 ⟨rfl, rfl⟩
    go_wp2_with fail
    refine (HD.out _).mono ?_
    rintro e w1 ⟨rfl, rfl⟩
    go_wp2_with fail
    go_ret
    rw [HN.out]
    exact ⟨rfl, rfl⟩
  have HN := Lib.hid (mayN_yes (s := s) ⟨by omega, by have := H2.out; omega, H3.out, H4.out, h5, h6⟩)
  have HC := Lib.hid (Contains_one s 47)
  rw [decide_eq_false h5] at HC
  have HD := Lib.hid (Contains_one s 0)
  rw [decide_eq_false h6] at HD
  clear h5 h6
  go_enter Try.func21, Try.ntmps21
  go_wp2_with fail
  refine (HC.out _).mono ?_
  rintro e w1 ⟨rfl, rfl⟩
  go_wp2_with fail
  refine (HD.out _).mono ?_
  rintro e w1 ⟨rfl, rfl⟩
  go_wp2_with fail
  go_ret
  rw [HN.out]
  exact ⟨rfl, rfl⟩

end Go.Proofs.Ytgdbdhfomlkpdaa
