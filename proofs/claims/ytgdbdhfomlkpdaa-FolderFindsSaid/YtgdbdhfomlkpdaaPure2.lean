/-
  Plain laws on what octet writes: numbers of one width stand in the order of their bytes; a count is read as it was written, and none is the beginning of another.
-/
import Derived.Test.YtgdbdhfomlkpdaaPure1
namespace Go.Proofs.Ytgdbdhfomlkpdaa
open Go.RowKit

theorem foldl_be (l : List UInt8) : ∀ a, l.foldl (fun a x => a * 256 + x.toNat) a = a * 256 ^ l.length + beN l := by
  induction l with
  | nil => intro a; simp [beN]
  | cons x l ih =>
    intro a
    rw [List.foldl_cons, ih, List.length_cons]
    have e : beN (x :: l) = x.toNat * 256 ^ l.length + beN l := by
      unfold beN
      rw [List.foldl_cons, ih, Nat.zero_mul, Nat.zero_add]
      rfl
    rw [e, Nat.add_mul, Nat.pow_succ, Nat.mul_comm (256 ^ l.length) 256, ← Nat.mul_assoc]
    omega
theorem beN_cons (x : UInt8) (l : List UInt8) : beN (x :: l) = x.toNat * 256 ^ l.length + beN l := by
  have := foldl_be l x.toNat
  unfold beN at *
  rw [List.foldl_cons, Nat.zero_mul, Nat.zero_add]
  exact this
theorem bytesLess_be : ∀ (l m : List UInt8), l.length = m.length → Op.bytesLess l m = decide (beN l < beN m)
  | [], [], _ => by simp [Op.bytesLess, beN]
  | [], _ :: _, h => by simp at h
  | _ :: _, [], h => by simp at h
  | x :: l, y :: m, h => by
    have hl : l.length = m.length := by simpa using h
    have ih := bytesLess_be l m hl
    have h1 := beN_lt l
    have h2 := beN_lt m
    rw [Op.bytesLess, ih, beN_cons, beN_cons, hl]
    rw [hl] at h1
    have hp : 0 < 256 ^ m.length := Nat.pow_pos (by omega)
    generalize 256 ^ m.length = S at *
    rw [Bool.eq_iff_iff]
    simp only [Bool.or_eq_true, Bool.and_eq_true, decide_eq_true_eq, beq_iff_eq, UInt8.lt_iff_toNat_lt]
    constructor
    · rintro (hlt | ⟨rfl, hlt⟩)
      · have : (x.toNat + 1) * S ≤ y.toNat * S := Nat.mul_le_mul_right _ hlt
        rw [Nat.add_mul] at this
        omega
      · omega
    · intro hlt
      rcases Nat.lt_trichotomy x.toNat y.toNat with h | h | h
      · exact .inl h
      · refine .inr ⟨UInt8.toNat_inj.1 h, ?_⟩
        rw [h] at hlt
        omega
      · have : (y.toNat + 1) * S ≤ x.toNat * S := Nat.mul_le_mul_right _ h
        rw [Nat.add_mul] at this
        omega

theorem order8 (a b : Int) (ha0 : 0 ≤ a) (ha1 : a ≤ 18446744073709551615) (hb0 : 0 ≤ b) (hb1 : b ≤ 18446744073709551615) : (decide (a < b) == Op.bytesLess (putB a.toNat 8) (putB b.toNat 8)) = true := by
  have h8 : (256 : Nat) ^ 8 = 18446744073709551616 := by decide
  rw [bytesLess_be _ _ (by rw [putB_length, putB_length]), beN_putB, beN_putB, h8, Nat.mod_eq_of_lt (by omega), Nat.mod_eq_of_lt (by omega)]
  simp only [beq_iff_eq, decide_eq_decide]
  omega

/-- A count is read as it was written, whatever stands behind it. -/
theorem takeC_countB (r : List UInt8) : ∀ (v i p : Nat), (v ≠ 0 ∨ i = 0) → v * 128 ^ i ≤ 18446744073709551615 → i ≤ 9 → takeC (countB v ++ r) i p = (p + v * 128 ^ i, i + (countB v).length, 0) := by
  intro v
  induction v using Nat.strongRecOn with
  | ind v ih =>
    intro i p hv hb hi
    have h19 : (128 : Nat) ^ 9 = 9223372036854775808 := by decide
    have h9 : i = 9 → v ≤ 1 := by
      intro h
      subst h
      rw [h19] at hb
      omega
    by_cases h : v < 128
    · have e : (UInt8.ofNat v).toNat = v := by rw [UInt8.toNat_ofNat', Nat.mod_eq_of_lt (by omega)]
      rw [countB_small v h, List.singleton_append, takeC, e, if_neg (by omega), if_pos h]
      simp
    · have e : (UInt8.ofNat (v % 128 + 128)).toNat = v % 128 + 128 := by rw [UInt8.toNat_ofNat', Nat.mod_eq_of_lt (by omega)]
      have hn := count_next v (v * 128 ^ i) i (Nat.le_refl _)
      have h89 : i ≠ 9 := by omega
      rw [countB_big v (by omega), List.cons_append, takeC, e, if_neg (by omega), if_neg (by omega), ih (v / 128) (by omega) (i + 1) _ (by omega) (by omega) (by omega)]
      have hval : p + (v % 128 + 128 - 128) * 128 ^ i + v / 128 * 128 ^ (i + 1) = p + v * 128 ^ i := by
        have e1 : v / 128 * 128 ^ (i + 1) = v / 128 * 128 * 128 ^ i := by rw [Nat.pow_succ, Nat.mul_comm (128 ^ i) 128, Nat.mul_assoc]
        rw [e1, Nat.add_sub_cancel, Nat.add_assoc, ← Nat.add_mul]
        congr 2
        omega
      rw [hval, List.length_cons]
      congr 2
      omega
theorem tcR_countB (v : Nat) (r : List UInt8) (hv : v ≤ 18446744073709551615) : tcR (countB v ++ r) = (v, (countB v).length, 0) := by
  unfold tcR
  rw [takeC_countB r v 0 0 (.inr rfl) (by simpa using hv) (by omega)]
  simp
theorem countB_ne (v : Nat) : countB v ≠ [] := by
  by_cases h : v < 128
  · rw [countB_small v h]; simp
  · rw [countB_big v (by omega)]; simp
/-- No count is the beginning of another one. -/
theorem count_apart (a b : Nat) (ha : a ≤ 18446744073709551615) (hb : b ≤ 18446744073709551615) (h : (countB a).take (min (countB a).length (countB b).length) = (countB b).take (min (countB a).length (countB b).length)) : a = b := by
  rcases Nat.le_total (countB a).length (countB b).length with hle | hle
  · rw [Nat.min_eq_left hle, List.take_length] at h
    have e : countB a ++ (countB b).drop (countB a).length = countB b := by
      have := List.take_append_drop (countB a).length (countB b)
      rwa [← h] at this
    have h1 := tcR_countB a ((countB b).drop (countB a).length) ha
    have h2 := tcR_countB b [] hb
    rw [e] at h1
    rw [List.append_nil, h1] at h2
    injection h2
  · rw [Nat.min_eq_right hle, List.take_length] at h
    have e : countB b ++ (countB a).drop (countB b).length = countB a := by
      have := List.take_append_drop (countB b).length (countB a)
      rwa [h] at this
    have h1 := tcR_countB b ((countB a).drop (countB b).length) hb
    have h2 := tcR_countB a [] ha
    rw [e] at h1
    rw [List.append_nil, h1] at h2
    injection h2 with h3
    exact h3.symm

end Go.Proofs.Ytgdbdhfomlkpdaa
