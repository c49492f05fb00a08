/-
  Feeding what was chunked: all comes back, and too much is told.
-/
import Derived.Test.YthijpbakhnakeaaDoorHexA
import Derived.Test.YthijpbakhnakeaaDoorChL
namespace Go.Proofs.YthijpbakhnakeaaDoor
open Go.RowKit

/-- At a chunk's beginning. -/
def stA (got : List UInt8) : St := ⟨2, 0, 0, 0, got⟩
theorem feed_cons {s s1 : St} {e : Int} {x : UInt8} (l : List UInt8) (h9 : s.nx ≠ 9) (h0 : s.bd = 0) (ht : takeP s x = (s1, e)) : feedP s (x :: l) = ((feedP { s1 with bd := e } l).1 + 1, (feedP { s1 with bd := e } l).2) := by
  rw [feedP, if_neg (by rintro (h | h); exact h9 h; exact h h0), ht]
theorem digP_hexD : ∀ d : Fin 16, digP ((hexD d.1).toNat : Int) = d.1 := by decide +kernel
theorem take_hex (got : List UInt8) (v L d : Nat) (hd : d < 16) (hL : L < 8) : takeP ⟨2, v, L, 0, got⟩ (hexD d) = (⟨2, ((v * 16 + d : Nat) : Int), ((L + 1 : Nat) : Int), 0, got⟩, 0) := by
  have h1 := digP_hexD ⟨d, hd⟩
  dsimp only at h1
  unfold takeP
  dsimp only
  rw [if_neg (by omega), if_pos rfl, h1, if_pos ⟨by omega, by omega⟩]
  simp only [Prod.mk.injEq, St.mk.injEq, true_and, and_true]
  exact ⟨by omega, by omega⟩
theorem feed_hex (got : List UInt8) (v : Nat) : v < 16 ^ 8 → ∀ x, feedP (stA got) (hex0 v ++ x) = ((feedP ⟨2, v, (hex0 v).length, 0, got⟩ x).1 + (hex0 v).length, (feedP ⟨2, v, (hex0 v).length, 0, got⟩ x).2) := by
  induction v using Nat.strongRecOn with
  | ind v ih =>
    intro hv x
    by_cases h0 : v = 0
    · subst h0
      rw [hex0_zero]
      rfl
    · have hl7 := hex0_len 7 (v / 16) (by omega)
      rw [hex0_pos (by omega), List.append_assoc, ih (v / 16) (by omega) (by omega)]
      have ht := take_hex got (v / 16) (hex0 (v / 16)).length (v % 16) (by omega) (by omega)
      have e : v / 16 * 16 + v % 16 = v := by omega
      rw [e] at ht
      rw [List.singleton_append, feed_cons x (by dsimp only; omega) rfl ht]
      simp only [List.length_append, List.length_cons, List.length_nil, Nat.zero_add]
      rw [Nat.add_assoc, Nat.add_comm 1]
theorem hex0_ne {v : Nat} (h : 0 < v) : 0 < (hex0 v).length := by
  rw [hex0_pos h]
  simp
/-- The line behind a size. -/
theorem feed_line (got : List UInt8) (v L : Nat) (hv : 0 < v) (hL : 0 < L) (x : List UInt8) (hg : got.length + v ≤ 4096) :
    feedP ⟨2, v, L, 0, got⟩ (13 :: 10 :: x) = ((feedP ⟨4, v, 0, 0, got⟩ x).1 + 2, (feedP ⟨4, v, 0, 0, got⟩ x).2) := by
  have t1 : takeP ⟨2, v, L, 0, got⟩ 13 = (⟨3, v, L, 0, got⟩, 0) := by
    unfold takeP
    dsimp only
    rw [if_neg (by omega), if_pos rfl, if_neg (by intro h; exact absurd h.1 (by decide)), if_neg (by omega)]
    rfl
  have t2 : takeP ⟨3, v, L, 0, got⟩ 10 = (⟨4, v, 0, 0, got⟩, 0) := by
    unfold takeP
    dsimp only
    rw [if_neg (by omega), if_neg (by omega), if_pos rfl, if_neg (by decide), if_neg (by omega), if_neg (by omega)]
  rw [feed_cons _ (by dsimp only; omega) rfl t1]
  dsimp only
  rw [feed_cons _ (by dsimp only; omega) rfl t2]
theorem feed_line_bad (got : List UInt8) (v L : Nat) (hv : 0 < v) (hL : 0 < L) (x : List UInt8) (hg : 4096 < got.length + v) :
    (feedP ⟨2, v, L, 0, got⟩ (13 :: 10 :: x)).2.bd = 2 := by
  have t1 : takeP ⟨2, v, L, 0, got⟩ 13 = (⟨3, v, L, 0, got⟩, 0) := by
    unfold takeP
    dsimp only
    rw [if_neg (by omega), if_pos rfl, if_neg (by intro h; exact absurd h.1 (by decide)), if_neg (by omega)]
    rfl
  have t2 : takeP ⟨3, v, L, 0, got⟩ 10 = (⟨3, v, 0, 0, got⟩, 2) := by
    unfold takeP
    dsimp only
    rw [if_neg (by omega), if_neg (by omega), if_pos rfl, if_neg (by decide), if_pos (by omega)]
  rw [feed_cons _ (by dsimp only; omega) rfl t1]
  dsimp only
  rw [feed_cons _ (by dsimp only; omega) rfl t2]
  dsimp only
  rw [feedP_stop (.inr (by dsimp only; decide))]
theorem feed_data : ∀ (l : List UInt8) (got x : List UInt8), 0 < l.length → feedP ⟨4, (l.length : Nat), 0, 0, got⟩ (l ++ x) = ((feedP ⟨5, 0, 0, 0, got ++ l⟩ x).1 + l.length, (feedP ⟨5, 0, 0, 0, got ++ l⟩ x).2)
  | [], _, _, h => absurd h (by simp)
  | a :: l, got, x, _ => by
    have t : takeP ⟨4, ((a :: l).length : Nat), 0, 0, got⟩ a = (⟨if 0 < l.length then 4 else 5, (l.length : Nat), 0, 0, got ++ [a]⟩, 0) := by
      unfold takeP
      dsimp only
      rw [if_pos (.inr rfl)]
      simp only [List.length_cons, Prod.mk.injEq, St.mk.injEq, and_true, true_and]
      refine ⟨?_, by omega⟩
      by_cases h : 0 < l.length
      · rw [if_pos (by omega), if_pos h]
      · rw [if_neg (by omega), if_neg h, if_neg (by omega)]
    rw [List.cons_append, feed_cons _ (by dsimp only; omega) rfl t]
    dsimp only
    by_cases h : 0 < l.length
    · rw [if_pos h, feed_data l (got ++ [a]) x h]
      simp only [List.append_assoc, List.singleton_append, List.length_cons, Nat.add_assoc]
    · obtain rfl : l = [] := List.eq_nil_of_length_eq_zero (by omega)
      rw [if_neg h]
      rfl
theorem feed_after (got x : List UInt8) : feedP ⟨5, 0, 0, 0, got⟩ (13 :: 10 :: x) = ((feedP (stA got) x).1 + 2, (feedP (stA got) x).2) := by
  have t1 : takeP ⟨5, 0, 0, 0, got⟩ 13 = (⟨6, 0, 0, 0, got⟩, 0) := rfl
  have t2 : takeP ⟨6, 0, 0, 0, got⟩ 10 = (⟨2, 0, 0, 0, got⟩, 0) := rfl
  rw [feed_cons _ (by dsimp only; omega) rfl t1]
  dsimp only
  rw [feed_cons _ (by dsimp only; omega) rfl t2]
  rfl
theorem feed_last (got x : List UInt8) (hg : got.length ≤ 4096) : feedP (stA got) ([48, 13, 10, 13, 10] ++ x) = (5, ⟨9, 0, 0, 0, got⟩) := by
  have t1 : takeP (stA got) 48 = (⟨2, 0, 1, 0, got⟩, 0) := rfl
  have t2 : takeP ⟨2, 0, 1, 0, got⟩ 13 = (⟨3, 0, 1, 0, got⟩, 0) := rfl
  have t3 : takeP ⟨3, 0, 1, 0, got⟩ 10 = (⟨7, 0, 0, 0, got⟩, 0) := by
    unfold takeP
    dsimp only
    rw [if_neg (by omega), if_neg (by omega), if_pos rfl, if_neg (by decide), if_neg (by omega), if_pos rfl]
  have t4 : takeP ⟨7, 0, 0, 0, got⟩ 13 = (⟨8, 0, 0, 0, got⟩, 0) := rfl
  have t5 : takeP ⟨8, 0, 0, 0, got⟩ 10 = (⟨9, 0, 0, 0, got⟩, 0) := rfl
  simp only [List.cons_append, List.nil_append]
  rw [feed_cons _ (by unfold stA; dsimp only; omega) rfl t1]
  dsimp only
  rw [feed_cons _ (by dsimp only; omega) rfl t2]
  dsimp only
  rw [feed_cons _ (by dsimp only; omega) rfl t3]
  dsimp only
  rw [feed_cons _ (by dsimp only; omega) rfl t4]
  dsimp only
  rw [feed_cons _ (by dsimp only; omega) rfl t5]
  dsimp only
  rw [feedP_stop (.inl rfl)]

/-- All comes back. -/
theorem feed_chunks (k : Nat) (hk : 1 ≤ k) (x : List UInt8) : ∀ (f : Nat) (l got : List UInt8), l.length ≤ f → got.length + l.length ≤ 4096 → feedP (stA got) (chunksL k f l ++ x) = ((chunksL k f l).length, ⟨9, 0, 0, 0, got ++ l⟩)
  | 0, l, got, hf, hg => by
    obtain rfl : l = [] := List.eq_nil_of_length_eq_zero (by omega)
    rw [chunksL_nil, feed_last got x (by omega), List.append_nil]
    rfl
  | f + 1, l, got, hf, hg => by
    by_cases h : l = []
    · subst h
      rw [chunksL_nil, feed_last got x (by simp at hg; omega), List.append_nil]
      rfl
    · have hl : 0 < l.length := List.length_pos_iff.2 h
      obtain ⟨m, hm⟩ : ∃ m, min k l.length = m := ⟨_, rfl⟩
      have hm0 : 0 < m := by omega
      have hml : m ≤ l.length := by omega
      have htl : (l.take m).length = m := by rw [List.length_take]; omega
      have hdl : (l.drop m).length = l.length - m := List.length_drop
      have ih := feed_chunks k hk x f (l.drop m) (got ++ l.take m) (by omega) (by rw [List.length_append]; omega)
      have hd := feed_data (l.take m) got (13 :: 10 :: (chunksL k f (l.drop m) ++ x)) (by omega)
      rw [htl] at hd
      rw [chunksL_step h, hm]
      simp only [List.append_assoc, List.cons_append, List.nil_append]
      rw [feed_hex got m (by omega), feed_line got m _ hm0 (hex0_ne hm0) _ (by omega), hd, feed_after, ih]
      simp only [List.length_append, List.length_cons, htl, List.append_assoc, List.take_append_drop, Prod.mk.injEq, and_true]
      omega
/-- Too much is told. -/
theorem feed_over (k : Nat) (hk : 1 ≤ k) : ∀ (f : Nat) (l got : List UInt8), l.length ≤ f → got.length ≤ 4096 → 4096 < got.length + l.length → l.length < 65536 → (feedP (stA got) (chunksL k f l)).2.bd = 2
  | 0, l, got, hf, h1, h2, _ => by omega
  | f + 1, l, got, hf, h1, h2, h3 => by
    have h : l ≠ [] := by
      intro e
      rw [e] at h2
      simp at h2
      omega
    have hl : 0 < l.length := List.length_pos_iff.2 h
    obtain ⟨m, hm⟩ : ∃ m, min k l.length = m := ⟨_, rfl⟩
    have hm0 : 0 < m := by omega
    have hml : m ≤ l.length := by omega
    have htl : (l.take m).length = m := by rw [List.length_take]; omega
    have hdl : (l.drop m).length = l.length - m := List.length_drop
    rw [chunksL_step h, hm]
    simp only [List.append_assoc, List.cons_append, List.nil_append]
    rw [feed_hex got m (by omega)]
    by_cases h4 : 4096 < got.length + m
    · dsimp only
      rw [feed_line_bad got m _ hm0 (hex0_ne hm0) _ h4]
    · have ih := feed_over k hk f (l.drop m) (got ++ l.take m) (by omega) (by rw [List.length_append]; omega) (by rw [List.length_append]; omega) (by omega)
      have hd := feed_data (l.take m) got (13 :: 10 :: chunksL k f (l.drop m)) (by omega)
      rw [htl] at hd
      rw [feed_line got m _ hm0 (hex0_ne hm0) _ (by omega), hd, feed_after]
      exact ih

end Go.Proofs.YthijpbakhnakeaaDoor
