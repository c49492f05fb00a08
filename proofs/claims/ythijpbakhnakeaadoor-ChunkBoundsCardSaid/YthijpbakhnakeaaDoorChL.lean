/-
  Plain laws on feeding a body: bytes fed in pieces; a sized body.
-/
import Derived.Test.YthijpbakhnakeaaDoorChG
namespace Go.Proofs.YthijpbakhnakeaaDoor
open Go.RowKit

theorem feedP_append {s' : St} : ∀ (l : List UInt8) (s : St) (x : List UInt8), feedP s l = (l.length, s') → feedP s (l ++ x) = ((feedP s' x).1 + l.length, (feedP s' x).2)
  | [], s, x, h => by
    have e : s = s' := by
      have := congrArg Prod.snd h
      exact this
    subst e
    simp
  | a :: l, s, x, h => by
    rw [feedP] at h
    rw [List.cons_append, feedP]
    split at h
    · have := congrArg Prod.fst h
      simp at this
    · rename_i hn
      rw [if_neg hn]
      have h1 := congrArg Prod.fst h
      have h2 := congrArg Prod.snd h
      simp only [List.length_cons, Nat.add_right_cancel_iff] at h1 h2
      have ih := feedP_append (s' := s') l { (takeP s a).1 with bd := (takeP s a).2 } x (Prod.ext h1 h2)
      rw [ih]
      simp only [List.length_cons, Nat.add_assoc]
theorem feedP_take : ∀ (l : List UInt8) (s : St), feedP s (l.take (feedP s l).1) = feedP s l
  | [], s => rfl
  | a :: l, s => by
    by_cases hn : s.nx = 9 ∨ s.bd ≠ 0
    · rw [feedP_stop hn (a :: l)]
      exact feedP_stop hn _
    · have e : feedP s (a :: l) = ((feedP { (takeP s a).1 with bd := (takeP s a).2 } l).1 + 1, (feedP { (takeP s a).1 with bd := (takeP s a).2 } l).2) := by rw [feedP, if_neg hn]
      rw [e]
      dsimp only
      rw [List.take_succ_cons, feedP, if_neg hn, feedP_take l]
theorem feedP_le : ∀ (l : List UInt8) (s : St), (feedP s l).1 ≤ l.length
  | [], s => Nat.le_refl _
  | a :: l, s => by
    rw [feedP]
    split
    · exact Nat.zero_le _
    · have := feedP_le l { (takeP s a).1 with bd := (takeP s a).2 }
      simpa using this
theorem feedP_all : ∀ (l : List UInt8) (s : St), (feedP s l).2.nx ≠ 9 → (feedP s l).2.bd = 0 → (feedP s l).1 = l.length
  | [], s, _, _ => rfl
  | a :: l, s, h9, hb => by
    rw [feedP] at h9 hb ⊢
    split
    · rename_i hn
      rw [if_pos hn] at h9 hb
      rcases hn with h | h
      · exact absurd h h9
      · exact absurd hb h
    · rename_i hn
      rw [if_neg hn] at h9 hb
      have := feedP_all l _ h9 hb
      simpa using this
theorem feedP_ok : ∀ (l : List UInt8) (s : St), Ok s → Ok (feedP s l).2
  | [], s, h => h
  | a :: l, s, h => by
    rw [feedP]
    split
    · exact h
    · rename_i hn
      exact feedP_ok l _ (takeP_ok h a (fun e => hn (.inl e)))
theorem wantP_err {s : St} {c must nx : Int} (h : (wantP s c must nx).2 ≠ 0) : (wantP s c must nx).1.nx = s.nx := by
  unfold wantP at h ⊢
  split
  · rename_i hc
    rw [if_pos hc] at h
    exact absurd rfl h
  · rfl
theorem takeP_err {s : St} {x : UInt8} (h : (takeP s x).2 ≠ 0) : (takeP s x).1.nx = s.nx := by
  revert h
  unfold takeP
  repeat' split
  all_goals intro h
  all_goals first | exact absurd rfl h | rfl | exact wantP_err h
/-- Behind an error the body is not done. -/
theorem feedP_err : ∀ (l : List UInt8) (s : St), (s.bd ≠ 0 → s.nx ≠ 9) → (feedP s l).2.bd ≠ 0 → (feedP s l).2.nx ≠ 9
  | [], s, h => h
  | a :: l, s, h => by
    rw [feedP]
    split
    · exact h
    · rename_i hn
      refine feedP_err l _ (fun hb => ?_)
      show (takeP s a).1.nx ≠ 9
      rw [takeP_err hb]
      exact fun e => hn (.inl e)

/-! ### A sized body -/
theorem feed_plain : ∀ (l : List UInt8) (n : Nat) (got : List UInt8), 1 ≤ n →
    feedP ⟨1, n, 0, 0, got⟩ l = if l.length < n then (l.length, ⟨1, (n : Int) - (l.length : Nat), 0, 0, got ++ l⟩) else (n, ⟨9, 0, 0, 0, got ++ l.take n⟩)
  | [], n, got, h => by
    rw [if_pos (by simp only [List.length_nil]; omega)]
    simp [feedP]
  | a :: l, n, got, h => by
    have e : takeP ⟨1, n, 0, 0, got⟩ a = (⟨if 1 < (n : Int) then 1 else 9, (n : Int) - 1, 0, 0, got ++ [a]⟩, 0) := by
      unfold takeP
      rw [if_pos (.inl rfl)]
      rfl
    rw [feedP, if_neg (by dsimp only; omega), e]
    dsimp only
    by_cases h1 : 1 < n
    · obtain ⟨m, rfl⟩ : ∃ m, n = m + 1 := ⟨n - 1, by omega⟩
      have e1 : ((m + 1 : Nat) : Int) - 1 = (m : Int) := by omega
      rw [if_pos (by omega), e1, feed_plain l m _ (by omega)]
      by_cases h2 : l.length < m
      · rw [if_pos h2, if_pos (by rw [List.length_cons]; omega)]
        simp only [List.length_cons, List.append_assoc, List.singleton_append, Prod.mk.injEq, true_and, St.mk.injEq, and_true]
        omega
      · rw [if_neg h2, if_neg (by rw [List.length_cons]; omega)]
        simp [List.take_succ_cons]
    · obtain rfl : n = 1 := by omega
      rw [if_neg (by omega), feedP_stop (.inl rfl), if_neg (by rw [List.length_cons]; omega)]
      simp
/-- How a sized body begins. -/
def stN (n : Nat) : St := if n = 0 then ⟨9, 0, 0, 0, []⟩ else ⟨1, n, 0, 0, []⟩
theorem okN (n : Nat) (h : n ≤ 4096) : Ok (stN n) := by
  unfold stN
  split
  · exact ⟨by decide, by decide, by decide, by decide, by decide, by decide, by decide, fun h => absurd h (by decide), fun h => absurd h (by decide), fun _ => by decide⟩
  · refine ⟨by dsimp only; omega, by dsimp only; omega, by dsimp only; omega, by dsimp only; omega, by dsimp only; omega, by dsimp only; omega, by simp, fun h => ?_, fun _ => ⟨by dsimp only; omega, by simp; omega, rfl⟩, fun h => ?_⟩
    · exact absurd h (by simp)
    · exact absurd h (by simp)

end Go.Proofs.YthijpbakhnakeaaDoor
