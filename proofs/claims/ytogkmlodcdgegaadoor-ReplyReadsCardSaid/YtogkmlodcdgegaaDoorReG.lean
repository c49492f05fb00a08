/-
  The document's answer to reply: begins, digits.
-/
import Derived.Test.YtogkmlodcdgegaaDoorReE
namespace Go.Proofs.YtogkmlodcdgegaaDoor
open Go.RowKit

/-- Is one the beginning of the other? -/
def begB (a b : List UInt8) : Bool := a.take (min a.length b.length) == b.take (min a.length b.length)
theorem begB_iff (a b : List UInt8) : begB a b = true ↔ a <+: b ∨ b <+: a := by
  unfold begB
  rw [beq_iff_eq]
  constructor
  · intro h
    by_cases hl : a.length ≤ b.length
    · rw [Nat.min_eq_left hl, List.take_length] at h
      exact .inl (h ▸ List.take_prefix _ _)
    · rw [Nat.min_eq_right (by omega), List.take_length] at h
      exact .inr (h ▸ List.take_prefix _ _)
  · rintro (h | h)
    · rw [Nat.min_eq_left h.length_le, List.take_length]
      exact List.prefix_iff_eq_take.1 h
    · rw [Nat.min_eq_right h.length_le, List.take_length]
      exact (List.prefix_iff_eq_take.1 h).symm
set_option maxHeartbeats 1000000 in
theorem begins_any (a b : List UInt8) (w : World) : Calls Tryd.prog 26 #[.string ⟨a.toArray⟩, .string ⟨b.toArray⟩] w fun e w' => e = .returned (.bool (begB a b)) ∧ Below w.heap.size w w' := by
  go_enter Tryd.func26, Tryd.ntmps26
  go_wp2_with fail
  go_quiet (fail)
  go_wp2_with fail
  go_ret
  refine ⟨congrArg (fun x => Ending.returned (Value.bool x)) ?_, below_drewN (Below.refl _ _) nq⟩
  have e : (min (a.length : Int) (b.length : Int)).toNat = min a.length b.length := by omega
  rw [e, Lib.extract_toList, Lib.extract_toList]
  rfl

def digitsL (b : List UInt8) (p : Nat) : List UInt8 := (b.drop p).take (min (runL (b.drop p)) 20)
set_option maxRecDepth 20000 in
set_option maxHeartbeats 4000000 in
theorem digits_any (b : List UInt8) (p : Nat) (hp : p ≤ b.length) (hb : b.length ≤ 1073741824) (w : World) : Calls Tryd.prog 27 #[.string ⟨b.toArray⟩, .int .i64 (p : Int)] w fun e w' => e = .returned (.string ⟨(digitsL b p).toArray⟩) ∧ w = w' := by
  obtain ⟨K, hK⟩ : ∃ K, min (runL (b.drop p)) 20 = K := ⟨_, rfl⟩
  have hr := runL_le (b.drop p)
  rw [List.length_drop] at hr
  have hat : ∀ k, k < K → ∃ x, b[p + k]? = some x ∧ isD x = true := fun k hk => by
    obtain ⟨x, h1, h2⟩ := runL_at (b.drop p) k (by omega)
    exact ⟨x, by rw [← h1, List.getElem?_drop], h2⟩
  have hend : K < 20 → ∀ x, b[p + K]? = some x → isD x = false := fun hk x hx => by
    refine runL_end (b.drop p) x ?_
    rw [List.getElem?_drop, ← hx]
    congr 1
    omega
  have hd : digitsL b p = (b.drop p).take K := by unfold digitsL; rw [hK]
  have HAT := Lib.hid hat
  have HEND := Lib.hid hend
  have HD := Lib.hid hd
  have hKl : p + K ≤ b.length := by omega
  have hK20 : K ≤ 20 := by omega
  have HSL := Lib.hid (run_str_lh (P := Tryd.prog) Tryd.underlying9 b p (p + K) (by omega) hKl (kl := .i64) (kh := .i64) (I := (p : Int)) (J := ((p + K : Nat) : Int)) rfl rfl)
  clear hat hend hd hK hr
  have hb1 : (b.length : Int) ≤ 1073741824 := by omega
  go_enter Tryd.func27, Tryd.ntmps27
  go_wp2_with fail
  go_loop [5] (fun i => ∃ I : Nat, p ≤ I ∧ I ≤ p + K ∧ i = .int .i64 I) (fun i => p + K - (intOf i).toNat)
  case atStart => exact ⟨p, Nat.le_refl _, by omega, rfl⟩
  case round =>
    obtain ⟨I, hI0, hI1, rfl⟩ := hrel
    by_cases hlt : I < p + K
    · obtain ⟨x, hx, hdx⟩ := HAT.out (I - p) (by omega)
      rw [show p + (I - p) = I by omega] at hx
      have hi := run_str_at (P := Tryd.prog) Tryd.underlying9 b I x hx (kl := .i64)
      have hks : (I : Int) < b.length := by omega
      have hd20 : (I : Int) - p < 20 := by omega
      have hd1 : (48 : Int) ≤ (x.toNat : Int) ∧ (x.toNat : Int) ≤ 57 := by simpa [isD] using hdx
      obtain ⟨d1, d2⟩ := hd1
      clear hx hdx
      go_wp2_with fail
      go_round
      case rel => exact ⟨I + 1, by omega, by omega, by go_num⟩
      case measure => simp [intOf]; omega
    · obtain rfl : I = p + K := by omega
      have hcase : b.length = p + K ∨ (p + K < b.length ∧ K = 20) ∨ (∃ x : UInt8, p + K < b.length ∧ K < 20 ∧ b[p + K]? = some x ∧ ((x.toNat : Int) < 48 ∨ (48 ≤ (x.toNat : Int) ∧ (57 : Int) < (x.toNat : Int)))) := by
        by_cases h1 : b.length = p + K
        · exact .inl h1
        · by_cases h2 : K = 20
          · exact .inr (.inl ⟨by omega, h2⟩)
          · have hx : b[p + K]? = some b[p + K] := List.getElem?_eq_getElem (by omega)
            have hn := HEND.out (by omega) _ hx
            refine .inr (.inr ⟨b[p + K], by omega, by omega, hx, ?_⟩)
            by_cases h3 : (b[p + K].toNat : Int) < 48
            · exact .inl h3
            · refine .inr ⟨by omega, ?_⟩
              by_cases h4 : (57 : Int) < (b[p + K].toNat : Int)
              · exact h4
              · have : isD b[p + K] = true := by
                  simp only [isD, Bool.and_eq_true, decide_eq_true_eq]
                  omega
                rw [this] at hn
                cases hn
      have HC := Lib.hid hcase
      obtain ⟨q, hq⟩ : ∃ q, p + K = q := ⟨_, rfl⟩
      have hsl := HSL.out
      rw [hq] at HC hsl hKl ⊢
      have hpq : (p : Int) ≤ q := by omega
      have HD2 : Hid (digitsL b p = (b.drop p).take (q - p)) := by
        show _ = _
        rw [HD.out]
        congr 1
        omega
      have hqp : (q : Int) - p = K := by omega
      have HQP := Lib.hid hqp
      clear hcase hlt hI0 hI1 hq hqp
      rcases HC.out with h1 | ⟨h1, h2⟩ | ⟨x, h1, h2, hx, hdx⟩
      · have h1' : (b.length : Int) ≤ q := by omega
        clear h1
        go_wp2_with fail
        go_ret
        rw [HD2.out]
        exact ⟨rfl, rfl⟩
      · have h1' : (q : Int) < b.length := by omega
        have h2' : (20 : Int) ≤ (q : Int) - p := by rw [HQP.out]; omega
        clear h1 h2
        go_wp2_with fail
        go_ret
        rw [HD2.out]
        exact ⟨rfl, rfl⟩
      · have h1' : (q : Int) < b.length := by omega
        have h2' : (q : Int) - p < 20 := by rw [HQP.out]; omega
        have hi := run_str_at (P := Tryd.prog) Tryd.underlying9 b q x hx (kl := .i64)
        clear h1 h2 hx
        rcases hdx with hd | ⟨hd, hd2⟩
        all_goals
          go_wp2_with fail
          go_ret
          rw [HD2.out]
          exact ⟨rfl, rfl⟩

end Go.Proofs.YtogkmlodcdgegaaDoor
