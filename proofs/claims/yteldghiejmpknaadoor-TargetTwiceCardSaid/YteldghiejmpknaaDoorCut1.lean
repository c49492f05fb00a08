/-
  Lists of bytes cut at one byte: at the first, at all.
-/
import Derived.Test.YteldghiejmpknaaDoorStrF
import Derived.Lib.Split
namespace Go.Proofs.YteldghiejmpknaaDoor
open Go.RowKit

/-- Ahead of the first c, behind it, whether it is there. -/
def cut1 (c : UInt8) : List UInt8 → List UInt8 × List UInt8 × Bool
  | [] => ([], [], false)
  | x :: l => if x = c then ([], l, true) else (x :: (cut1 c l).1, (cut1 c l).2)
/-- The pieces between all c. -/
def split1 (c : UInt8) : List UInt8 → List (List UInt8)
  | [] => [[]]
  | x :: l => if x = c then [] :: split1 c l else match split1 c l with
    | p :: ps => (x :: p) :: ps
    | [] => [[x]]
theorem split1_ne (c : UInt8) : ∀ l, split1 c l ≠ []
  | [] => by simp [split1]
  | x :: l => by
    rw [split1]
    split
    · simp
    · split <;> simp
theorem cut1_app (c : UInt8) : ∀ l, (cut1 c l).2.2 = true → l = (cut1 c l).1 ++ c :: (cut1 c l).2.1
  | [], h => by simp [cut1] at h
  | x :: l, h => by
    rw [cut1] at h ⊢
    split
    · rename_i hx
      rw [hx]
      rfl
    · rename_i hx
      rw [if_neg hx] at h
      rw [List.cons_append, ← cut1_app c l h]
theorem cut1_none (c : UInt8) : ∀ l, (cut1 c l).2.2 = false → (cut1 c l).1 = l ∧ (cut1 c l).2.1 = [] ∧ c ∉ l
  | [], _ => ⟨rfl, rfl, by simp⟩
  | x :: l, h => by
    rw [cut1] at h ⊢
    split
    · rename_i hx
      rw [if_pos hx] at h
      cases h
    · rename_i hx
      rw [if_neg hx] at h
      obtain ⟨h1, h2, h3⟩ := cut1_none c l h
      exact ⟨by rw [h1], h2, by simp [h3, Ne.symm hx]⟩
theorem cut1_mem (c : UInt8) : ∀ l, c ∉ (cut1 c l).1
  | [] => by simp [cut1]
  | x :: l => by
    rw [cut1]
    split
    · simp
    · rename_i hx
      have := cut1_mem c l
      simp [this, Ne.symm hx]
theorem cut1_le (c : UInt8) (l : List UInt8) : (cut1 c l).1.length ≤ l.length ∧ (cut1 c l).2.1.length ≤ l.length := by
  cases h : (cut1 c l).2.2
  · obtain ⟨h1, h2, _⟩ := cut1_none c l h
    rw [h1, h2]
    simp
  · have := congrArg List.length (cut1_app c l h)
    rw [List.length_append, List.length_cons] at this
    omega

theorem index_nil1 (c : UInt8) : Lib.index [] [c] = -1 := rfl
theorem index_cons1 (c x : UInt8) (l : List UInt8) : Lib.index (x :: l) [c] = if x = c then 0 else if Lib.index l [c] = -1 then -1 else Lib.index l [c] + 1 := by
  by_cases h : x = c
  · subst h
    rw [if_pos rfl]
    simp [Lib.index]
  · rw [if_neg h]
    have : (x == c) = false := by simpa using h
    have h2 : (c == x) = false := by simpa using Ne.symm h
    simp [Lib.index, this, h2, h, Ne.symm h]
theorem cut_one (c : UInt8) : ∀ l, Lib.cut l [c] = cut1 c l
  | [] => by
    unfold Lib.cut
    rw [index_nil1]
    rfl
  | x :: l => by
    have ih := cut_one c l
    have hge := Lib.index_ge l [c]
    unfold Lib.cut at ih ⊢
    rw [index_cons1, cut1]
    by_cases hx : x = c
    · rw [if_pos hx, if_pos hx]
      simp
    · rw [if_neg hx, if_neg hx]
      by_cases hi : Lib.index l [c] = -1
      · rw [if_pos hi, if_neg (by omega)]
        rw [if_neg (by omega)] at ih
        rw [← ih]
      · rw [if_neg hi, if_pos (by omega)]
        rw [if_pos (by omega)] at ih
        rw [← ih]
        obtain ⟨k, hk⟩ : ∃ k : Nat, Lib.index l [c] = k := ⟨(Lib.index l [c]).toNat, by omega⟩
        rw [hk]
        have e : ((k : Int) + 1).toNat = k + 1 := by omega
        rw [e]
        simp [Nat.add_right_comm]
theorem split1_cut (c : UInt8) : ∀ l, split1 c l = if (cut1 c l).2.2 then (cut1 c l).1 :: split1 c (cut1 c l).2.1 else [l]
  | [] => rfl
  | x :: l => by
    rw [split1, cut1]
    by_cases hx : x = c
    · rw [if_pos hx, if_pos hx]
      rfl
    · rw [if_neg hx, if_neg hx]
      dsimp only
      have ih := split1_cut c l
      split at ih
      · rename_i h
        rw [ih, if_pos h]
      · rename_i h
        rw [ih, if_neg h]
/-- What the library's Split makes. -/
theorem splitK_one (c : UInt8) : ∀ (k : Nat) (l : List UInt8), Lib.count l [c] = k → Lib.splitK [c] 0 k l = split1 c l
  | 0, l, h => by
    rw [split1_cut]
    have hm : Lib.index l [c] = -1 := by
      by_cases hi : Lib.index l [c] = -1
      · exact hi
      · have hge := Lib.index_ge l [c]
        obtain ⟨i, hi2⟩ : ∃ i : Nat, Lib.index l [c] = i := ⟨(Lib.index l [c]).toNat, by omega⟩
        have := Lib.count_hit (by simp) hi2
        omega
    have hc := cut_one c l
    unfold Lib.cut at hc
    rw [if_neg (by omega)] at hc
    rw [← hc]
    rfl
  | k + 1, l, h => by
    have hge := Lib.index_ge l [c]
    have hne : Lib.index l [c] ≠ -1 := by
      intro hm
      rw [Lib.count_miss hm] at h
      omega
    obtain ⟨i, hi⟩ : ∃ i : Nat, Lib.index l [c] = i := ⟨(Lib.index l [c]).toNat, by omega⟩
    have hc := cut_one c l
    unfold Lib.cut at hc
    rw [if_pos (by omega), hi] at hc
    have h2 := Lib.count_hit (s := l) (sub := [c]) (by simp) hi
    rw [split1_cut, ← hc, Lib.splitK, if_neg (by rw [hi]; simp), hi]
    simp only [Int.toNat_natCast, Nat.add_zero, List.length_cons, List.length_nil, Nat.zero_add, if_true] at h2 ⊢
    rw [splitK_one c k _ (by omega)]

end Go.Proofs.YteldghiejmpknaaDoor
