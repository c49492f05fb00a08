/-
  Slices of slices of bytes: a row at a place; cofferlaw0's Sum.
-/
import Derived.Test.YthijpbakhnakeaaDoorLawA
import Derived.Test.YthijpbakhnakeaaDoorOpen2
namespace Go.Proofs.YthijpbakhnakeaaDoor
open Go.RowKit

theorem er : ElemT Tryd.prog 30 22 (.slice none 0 0) 1 24 := ElemT.of Tryd.underlying30 (by kernel_rfl) rfl (by omega)

theorem Rows2.keep {w w' : World} {A : Option Addr} {n c : Nat} {ll : List Row} (h : Rows2 w A n c ll) (h1 : Below w.heap.size w w') : Rows2 w' A n c ll := ⟨h.rd.below h1, fun r hr => (h.each r hr).below h1⟩
theorem Rows2.len {w : World} {A : Option Addr} {n c : Nat} {ll : List Row} (h : Rows2 w A n c ll) : ll.length = n := by simpa using h.rd.len
theorem Rows2.at {w : World} {A : Option Addr} {n c : Nat} {ll : List Row} (h : Rows2 w A n c ll) (J : Int) (k : Nat) (hJ : J = k) (hk : k < n) :
    ∃ r, Hid (ll[k]? = some r) ∧ (∀ W, (Instr.indexAt 30 (.slice A n c) (.int .i64 J)).run Tryd.prog W = .ok (.pointer (some (at_ A k))) W) ∧
      w.cell? (at_ A k) = some (.slice r.A r.n r.c) ∧ Rd w 1 r.A r.n r.c (r.l.map b8) ∧ r.n ≤ maxLen := by
  subst hJ
  have hl := h.len
  have hkl : k < ll.length := by omega
  have hr := h.each ll[k] (List.getElem_mem hkl)
  refine ⟨ll[k], List.getElem?_eq_getElem hkl, fun W => by simpa using run_index_rd er h.rd.nil h.rd.le k hk W, h.rd.cell k _ ?_, hr, Nat.le_trans hr.le hr.max⟩
  rw [List.getElem?_map, List.getElem?_eq_getElem hkl]
  rfl

/-- How many bytes; at most a little more than most. -/
def sumP (most : Nat) : Nat → List Row → Nat
  | acc, [] => acc
  | acc, r :: ll => if most < acc then acc else if most < r.n then most + 1 else sumP most (acc + r.n) ll
theorem sumP_drop {most : Nat} {ll : List Row} {j : Nat} {r : Row} (h : ll[j]? = some r) (acc : Nat) : sumP most acc (ll.drop j) = if most < acc then acc else if most < r.n then most + 1 else sumP most (acc + r.n) (ll.drop (j + 1)) := by
  obtain ⟨hj, rfl⟩ := List.getElem?_eq_some_iff.1 h
  rw [List.drop_eq_getElem_cons hj, sumP]
theorem sumP_over {most : Nat} {ll : List Row} {acc : Nat} (h : most < acc) : sumP most acc ll = acc := by
  cases ll with
  | nil => rfl
  | cons r ll => rw [sumP, if_pos h]

end Go.Proofs.YthijpbakhnakeaaDoor
