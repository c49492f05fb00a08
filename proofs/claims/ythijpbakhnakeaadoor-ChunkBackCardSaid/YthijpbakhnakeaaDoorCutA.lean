/-
  cofferlaw0's Place and Cut.
-/
import Derived.Test.YthijpbakhnakeaaDoorRowsL
import Derived.Test.YthijpbakhnakeaaDoorOpenI
import Derived.Test.YthijpbakhnakeaaDoorPlace
namespace Go.Proofs.YthijpbakhnakeaaDoor
open Go.RowKit

theorem RdI.at {w : World} {A : Option Addr} {n c : Nat} {zs : List Int} (h : RdI w A n c zs) {t : TypeId} {z0 : Value} {bytes : Nat} (et : ElemT Tryd.prog t 3 z0 1 bytes) (J : Int) (k : Nat) (hJ : J = k) (hk : k < n) :
    ∃ z, Hid (zs[k]? = some z) ∧ (∀ W, (Instr.indexAt t (.slice A n c) (.int .i64 J)).run Tryd.prog W = .ok (.pointer (some (at_ A k))) W) ∧
      w.cell? (at_ A k) = some (.int .i64 z) ∧ -9223372036854775808 ≤ z ∧ z ≤ 9223372036854775807 := by
  subst hJ
  have hl := h.rd.len
  simp only [List.length_map, Nat.mul_one] at hl
  have hkl : k < zs.length := by omega
  refine ⟨zs[k], List.getElem?_eq_getElem hkl, fun W => by simpa using run_index_rd et h.rd.nil h.rd.le k hk W, h.rd.cell k _ ?_, h.lo _ (List.getElem_mem hkl), h.hi _ (List.getElem_mem hkl)⟩
  rw [List.getElem?_map, List.getElem?_eq_getElem hkl]
  rfl
theorem ei : ElemT Tryd.prog 29 3 (.int .i64 0) 1 8 := ElemT.of Tryd.underlying29 (by kernel_rfl) rfl (by omega)

/-- All bytes of the rows. -/
def flat (ll : List Row) : List UInt8 := (ll.map Row.l).flatten
theorem flat_snoc (ll : List Row) (r : Row) : flat (ll ++ [r]) = flat ll ++ r.l := by simp [flat]

end Go.Proofs.YthijpbakhnakeaaDoor
