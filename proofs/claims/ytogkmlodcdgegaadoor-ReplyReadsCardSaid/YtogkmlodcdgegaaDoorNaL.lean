/-
  Package names: Print of a number and Number, in plain words (for NamesBack).
-/
import Derived.Test.YtogkmlodcdgegaaDoorNaG
import Derived.Test.YtogkmlodcdgegaaDoorPri
namespace Go.Proofs.YtogkmlodcdgegaaDoor
open Go.RowKit

theorem dec_digit (d : Nat) (h : d < 10) : ((UInt8.ofNat (48 + d)).toNat) = 48 + d := by
  rw [UInt8.toNat_ofNat']
  omega
theorem dec_all (v : Nat) : digL (Lib.decDigits v) ∧ vL (Lib.decDigits v) 0 = v ∧ 0 < (Lib.decDigits v).length ∧ (0 < v → ∀ y r, Lib.decDigits v = y :: r → 49 ≤ y.toNat) := by
  induction v using Nat.strongRecOn with
  | ind v ih =>
    by_cases h : v < 10
    · rw [Lib.decDigits, dif_pos h]
      have hd := dec_digit v h
      refine ⟨?_, ?_, by simp, ?_⟩
      · intro x hx
        rw [List.mem_singleton] at hx
        rw [hx, hd]
        omega
      · show 10 * 0 + ((UInt8.ofNat (48 + v)).toNat - 48) = v
        rw [hd]
        omega
      · intro h0 y r e
        injection e with e1 e2
        rw [← e1, hd]
        omega
    · obtain ⟨a1, a2, a3, a4⟩ := ih (v / 10) (by omega)
      rw [Lib.decDigits, dif_neg h]
      have hd := dec_digit (v % 10) (by omega)
      refine ⟨?_, ?_, by simp, ?_⟩
      · intro x hx
        rcases List.mem_append.1 hx with hx | hx
        · exact a1 x hx
        · rw [List.mem_singleton] at hx
          rw [hx, hd]
          omega
      · rw [vL_snoc, a2, hd]
        omega
      · intro h0 y r e
        obtain ⟨z, q, hq⟩ : ∃ z q, Lib.decDigits (v / 10) = z :: q := by
          rcases hl : Lib.decDigits (v / 10) with _ | ⟨z, q⟩
          · rw [hl] at a3
            simp at a3
          · exact ⟨z, q, rfl⟩
        rw [hq, List.cons_append] at e
        injection e with e1 e2
        rw [← e1]
        exact a4 (by omega) z q hq

theorem digS_of (s : ByteArray) (h : digL s.data.toList) : digS s := by
  intro k hk
  have h2 := h _ (List.getElem_mem (l := s.data.toList) (n := k) (by rw [size_list]; exact hk))
  rw [get_list s k hk] at h2
  omega
/-- What Print writes of a number that is not negative is read as that number. -/
theorem numR_print (n : Int) (h0 : 0 ≤ n) (h1 : n ≤ 9223372036854775807) : numR (printB n) = (n, 0) := by
  obtain ⟨v, rfl⟩ := Int.eq_ofNat_of_zero_le h0
  have e : (printB (v : Int)).data.toList = Lib.decDigits v := by
    unfold printB Lib.itoa
    rw [if_neg (by omega), Int.toNat_natCast]
  obtain ⟨a1, a2, a3, a4⟩ := dec_all v
  have hd : digS (printB (v : Int)) := digS_of _ (by rw [e]; exact a1)
  have hs : 0 < (printB (v : Int)).size := by rw [← size_list, e]; exact a3
  have hv : valS (printB (v : Int)) (printB (v : Int)).size = v := by rw [valS_all, e]; exact a2
  have hz : ¬ zeroS (printB (v : Int)) := by
    rintro ⟨q1, q2, q3⟩
    rw [← get_list _ 0 q1] at q2
    rw [← size_list, e] at q3
    rcases hl : Lib.decDigits v with _ | ⟨y, r⟩
    · rw [hl] at q3
      simp at q3
    · simp only [e, hl, List.getElem_cons_zero] at q2
      by_cases hv0 : 0 < v
      · have := a4 hv0 y r hl
        omega
      · obtain rfl : v = 0 := by omega
        rw [Lib.decDigits, dif_pos (by omega)] at q3
        simp at q3
  rw [numR_good ⟨hd, hs, hz⟩ (by rw [hv]; omega), hv]
theorem numR_print_neg (n : Int) (h0 : n < 0) : numR (printB n) = (0, 4) := by
  have e : (printB n).data.toList = 45 :: Lib.decDigits n.natAbs := by
    unfold printB Lib.itoa
    rw [if_pos h0]
  refine numR_bad fun h => ?_
  have hs := h.2.1
  have h2 := (h.1 0 hs).1
  rw [← get_list _ 0 hs] at h2
  simp only [e, List.getElem_cons_zero] at h2
  exact absurd h2 (by decide)

end Go.Proofs.YtogkmlodcdgegaaDoor
