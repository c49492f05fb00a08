/-
  Package chunk: Feed, Done, Data, Chunked, Sized.
-/
import Derived.Test.YthijpbakhnakeaaDoorChC
import Derived.Test.YthijpbakhnakeaaDoorChD
import Derived.Test.YthijpbakhnakeaaDoorChE
namespace Go.Proofs.YthijpbakhnakeaaDoor
open Go.RowKit

theorem take_any {w : World} {base g : Nat} {A : Option Addr} {n c : Nat} {s : St} (hb : Body w base g A n c s) (x : UInt8) (h1 : 1 ≤ s.nx) (h8 : s.nx ≤ 8) (hN : Num s) : TakeSpec w base g A s x := by
  have h : (s.nx = 1 ∨ s.nx = 4) ∨ s.nx = 2 ∨ s.nx = 3 ∨ (s.nx = 5 ∨ s.nx = 6 ∨ s.nx = 7 ∨ s.nx = 8) := by omega
  rcases h with h | h | h | h
  · exact take_data hb x h hN
  · exact take_size hb x h hN
  · exact take_line hb x h hN
  · exact take_want hb x h

/-! ### The plain walk of Feed -/
/-- Bytes are taken, up to the end or an error: how many, and the state behind them. -/
def feedP : St → List UInt8 → Nat × St
  | s, [] => (0, s)
  | s, x :: l => if s.nx = 9 ∨ s.bd ≠ 0 then (0, s) else ((feedP { (takeP s x).1 with bd := (takeP s x).2 } l).1 + 1, (feedP { (takeP s x).1 with bd := (takeP s x).2 } l).2)
/-- What a body may be. -/
structure Ok (s : St) : Prop where
  nx1 : 1 ≤ s.nx
  nx9 : s.nx ≤ 9
  lf0 : 0 ≤ s.lf
  lf1 : s.lf ≤ 4294967295
  dg0 : 0 ≤ s.dg
  dg8 : s.dg ≤ 8
  len : s.got.length ≤ 4096
  size : s.nx = 2 → s.lf < 16 ^ s.dg.toNat
  data : s.nx = 1 ∨ s.nx = 4 → 1 ≤ s.lf ∧ s.lf + s.got.length ≤ 4096 ∧ s.dg = 0
  ends : s.nx = 5 ∨ s.nx = 6 → s.lf = 0 ∧ s.dg = 0

theorem Ok.num {s : St} (h : Ok s) : Num s := ⟨h.lf0, by have := h.lf1; omega, h.dg0, h.dg8, by have := h.len; omega⟩
theorem pow16 (k : Nat) (h : k ≤ 8) : (16 : Int) ^ k ≤ 4294967296 := by
  have h1 : (16 : Nat) ^ k ≤ 16 ^ 8 := Nat.pow_le_pow_right (by omega) h
  have h2 : (16 : Nat) ^ 8 = 4294967296 := by decide
  have h3 : ((16 : Int) ^ k) = ((16 ^ k : Nat) : Int) := by rw [Int.natCast_pow]; rfl
  rw [h3]
  omega
theorem wantP_ok {s : St} (h : Ok s) (c must nx : Int) (h1 : 1 ≤ nx) (h9 : nx ≤ 9) (h2 : nx = 2 → s.lf = 0 ∧ s.dg = 0) (hd : ¬ (nx = 1 ∨ nx = 4)) (h5 : nx = 5 ∨ nx = 6 → s.lf = 0 ∧ s.dg = 0) (b : Int) : Ok { (wantP s c must nx).1 with bd := b } := by
  unfold wantP
  split
  · exact ⟨h1, h9, h.lf0, h.lf1, h.dg0, h.dg8, h.len, fun e => by obtain ⟨e1, e2⟩ := h2 e; simp [e1, e2], fun e => absurd e hd, h5⟩
  · exact ⟨h.nx1, h.nx9, h.lf0, h.lf1, h.dg0, h.dg8, h.len, h.size, h.data, h.ends⟩
theorem takeP_ok {s : St} (h : Ok s) (x : UInt8) (h9 : s.nx ≠ 9) : Ok { (takeP s x).1 with bd := (takeP s x).2 } := by
  have hd16 := digP_lt (x.toNat : Int)
  have hnx := h.nx1
  have hnx9 := h.nx9
  have hlf0 := h.lf0
  have hlf1 := h.lf1
  have hdg0 := h.dg0
  have hdg8 := h.dg8
  have hlen := h.len
  unfold takeP
  split
  · rename_i h1
    obtain ⟨e1, e2, e3⟩ := h.data h1
    have hn5 : (if 1 < s.lf then s.nx else if s.nx = 1 then 9 else 5) = s.nx ∧ 1 < s.lf ∨ ((if 1 < s.lf then s.nx else if s.nx = 1 then 9 else 5) = (9 : Int) ∧ s.lf = 1) ∨ ((if 1 < s.lf then s.nx else if s.nx = 1 then 9 else 5) = (5 : Int) ∧ s.lf = 1) := by
      by_cases h2 : 1 < s.lf
      · exact .inl ⟨if_pos h2, h2⟩
      · rw [if_neg h2]
        by_cases h3 : s.nx = 1
        · exact .inr (.inl ⟨if_pos h3, by omega⟩)
        · exact .inr (.inr ⟨if_neg h3, by omega⟩)
    generalize (if 1 < s.lf then s.nx else if s.nx = 1 then 9 else 5) = q at hn5 ⊢
    have hl' : (s.got ++ [x]).length = s.got.length + 1 := by simp
    refine ⟨?_, ?_, ?_, ?_, ?_, ?_, ?_, ?_, ?_, ?_⟩ <;> dsimp only <;> try rw [hl']
    all_goals omega
  · split
    · rename_i h0 h2
      split
      · rename_i h3
        obtain ⟨h3, h4⟩ := h3
        have hs := h.size h2
        have hp := pow16 (s.dg.toNat + 1) (by omega)
        have e : (s.dg + 1).toNat = s.dg.toNat + 1 := by omega
        have e2 : (16 : Int) ^ (s.dg.toNat + 1) = 16 ^ s.dg.toNat * 16 := Int.pow_succ ..
        refine ⟨?_, ?_, ?_, ?_, ?_, ?_, ?_, ?_, ?_, ?_⟩ <;> dsimp only
        all_goals first | omega | (intro _; rw [e]; omega)
      · split
        · exact ⟨h.nx1, h.nx9, h.lf0, h.lf1, h.dg0, h.dg8, h.len, h.size, h.data, h.ends⟩
        · exact wantP_ok h _ _ _ (by omega) (by omega) (by omega) (by omega) (by omega) _
    · split
      · split
        · refine ⟨?_, ?_, ?_, ?_, ?_, ?_, ?_, ?_, ?_, ?_⟩ <;> dsimp only <;> omega
        · split
          · refine ⟨?_, ?_, ?_, ?_, ?_, ?_, ?_, ?_, ?_, ?_⟩ <;> dsimp only <;> omega
          · split
            · refine ⟨?_, ?_, ?_, ?_, ?_, ?_, ?_, ?_, ?_, ?_⟩ <;> dsimp only <;> omega
            · refine ⟨?_, ?_, ?_, ?_, ?_, ?_, ?_, ?_, ?_, ?_⟩ <;> dsimp only <;> omega
      · split
        · have := h.ends (by omega)
          exact wantP_ok h _ _ _ (by omega) (by omega) (by omega) (by omega) (by omega) _
        · split
          · have := h.ends (by omega)
            exact wantP_ok h _ _ _ (by omega) (by omega) (by omega) (by omega) (by omega) _
          · split
            · exact wantP_ok h _ _ _ (by omega) (by omega) (by omega) (by omega) (by omega) _
            · split
              · exact wantP_ok h _ _ _ (by omega) (by omega) (by omega) (by omega) (by omega) _
              · exact ⟨h.nx1, h.nx9, h.lf0, h.lf1, h.dg0, h.dg8, h.len, h.size, h.data, h.ends⟩

theorem feedP_drop {s : St} {l : List UInt8} {j : Nat} {x : UInt8} (h : l[j]? = some x) : feedP s (l.drop j) = if s.nx = 9 ∨ s.bd ≠ 0 then (0, s) else ((feedP { (takeP s x).1 with bd := (takeP s x).2 } (l.drop (j + 1))).1 + 1, (feedP { (takeP s x).1 with bd := (takeP s x).2 } (l.drop (j + 1))).2) := by
  obtain ⟨hj, rfl⟩ := List.getElem?_eq_some_iff.1 h
  rw [List.drop_eq_getElem_cons hj, feedP]

end Go.Proofs.YthijpbakhnakeaaDoor
