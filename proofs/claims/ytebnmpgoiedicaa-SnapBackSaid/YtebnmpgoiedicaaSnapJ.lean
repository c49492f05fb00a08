/-
  The law SnapBack.
-/
import Derived.Test.YtebnmpgoiedicaaSnapI
namespace Go.Proofs.Ytebnmpgoiedicaa
open Go.RowKit

theorem bytes_ok {R : List UInt8} {t : Int} {s : ByteArray} (hR : R.length = 32) (ht1 : t ≤ 9223372036854775807) (h : mayB t s = true) :
    ∃ b, bytesP R t s = (b, 0) ∧ b.length = 43 + s.size ∧ s.size ≤ 64 ∧ takeM b = (mC R t s, 0) ∧ (∀ p, p < b.length → takeM (b.take p) = (mZ, 4)) ∧ ∀ x, takeM (b ++ [x]) = (mZ, 4) := by
  have ht0 := may_time h
  have hs := may_size h
  have hc := countB_small s.size (by omega)
  have hsl : s.data.toList.length = s.size := by simp
  refine ⟨[83, 49] ++ R ++ putB t.toNat 8 ++ [UInt8.ofNat s.size] ++ s.data.toList, ?_, ?_, hs, ?_, ?_, ?_⟩
  · unfold bytesP
    rw [if_pos h, hc]
  · simp [putB_length, hR]
    omega
  all_goals
    obtain ⟨P, hP, hPl⟩ : ∃ P : List UInt8, putB t.toNat 8 = P ∧ P.length = 8 := ⟨_, rfl, putB_length _ _⟩
    have hbe : beN P = t.toNat := by
      rw [← hP, beN_putB, show (256 : Nat) ^ 8 = 18446744073709551616 by decide, Nat.mod_eq_of_lt (by omega)]
    obtain ⟨S, hS⟩ : ∃ S, s.data.toList = S := ⟨_, rfl⟩
    have hSe : s = ⟨S.toArray⟩ := by
      rw [← hS]
    rw [hS] at hsl
    rw [hP, hS]
    have hx : (UInt8.ofNat s.size).toNat = s.size := by rw [UInt8.toNat_ofNat', Nat.mod_eq_of_lt (by omega)]
    obtain ⟨x, hxe⟩ : ∃ x, UInt8.ofNat s.size = x := ⟨_, rfl⟩
    rw [hxe] at hx ⊢
    have hl : ([83, 49] ++ R ++ P ++ [x] ++ S).length = 43 + s.size := by
      simp [hR, hPl]
      omega
    have h42 : ([83, 49] ++ R ++ P ++ [x] ++ S)[42]? = some x := by
      rw [List.append_assoc, List.getElem?_append_right (by simp [hR, hPl])]
      simp [hR, hPl]
    have h34 : ([83, 49] ++ R ++ P ++ [x] ++ S).drop 34 = P ++ [x] ++ S := by
      have : ([83, 49] ++ R ++ P ++ [x] ++ S) = ([83, 49] ++ R) ++ (P ++ [x] ++ S) := by simp
      rw [this]
      have e : 34 = (([83, 49] : List UInt8) ++ R).length := by simp [hR]
      rw [e, List.drop_left]
    have h43 : ([83, 49] ++ R ++ P ++ [x] ++ S).drop 43 = S := by
      have e : 43 = (([83, 49] : List UInt8) ++ R ++ P ++ [x]).length := by simp [hR, hPl]
      rw [e, List.drop_left]
  · have e2 : RT ([83, 49] ++ R ++ P ++ [x] ++ S) = R := by
      unfold RT
      have : ([83, 49] ++ R ++ P ++ [x] ++ S) = [83, 49] ++ (R ++ (P ++ [x] ++ S)) := by simp
      rw [this, show 2 = ([83, 49] : List UInt8).length from rfl, List.drop_left, ← hR, List.take_left]
    have eT : tT ([83, 49] ++ R ++ P ++ [x] ++ S) = t.toNat := by
      unfold tT
      rw [h34, List.append_assoc, ← hPl, List.take_left, hbe]
    have eS : sT ([83, 49] ++ R ++ P ++ [x] ++ S) = s := by
      unfold sT
      rw [h43, hSe]
    have et : ((t.toNat : Nat) : Int) = t := by omega
    have hok : okT ([83, 49] ++ R ++ P ++ [x] ++ S) := by
      refine ⟨by rw [hl]; omega, by simp, by rw [eT]; omega, ?_, by rw [eT, eS, et]; exact h⟩
      simp only [List.getD, h42, Option.getD_some]
      rw [hx, hl]
      omega
    rw [take_yes hok, e2, eT, eS, et]
  · intro p hp
    refine take_no fun ⟨h1, _, _, h4, _⟩ => ?_
    rw [List.length_take] at h1 h4
    have : (([83, 49] ++ R ++ P ++ [x] ++ S).take p).getD 42 0 = x := by
      simp only [List.getD, List.getElem?_take, show 42 < p by omega, if_true, h42, Option.getD_some]
    rw [this, hx] at h4
    omega
  · intro y
    refine take_no fun ⟨h1, _, _, h4, _⟩ => ?_
    have : (([83, 49] ++ R ++ P ++ [x] ++ S) ++ [y]).getD 42 0 = x := by
      simp only [List.getD]
      rw [List.getElem?_append_left (by rw [hl]; omega), h42]
      rfl
    rw [this, hx, List.length_append, hl] at h4
    simp at h4
    omega

end Go.Proofs.Ytebnmpgoiedicaa
