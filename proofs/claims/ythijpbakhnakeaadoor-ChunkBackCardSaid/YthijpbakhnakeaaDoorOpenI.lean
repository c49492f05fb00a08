/-
  How a slice of ints that came in is opened.
-/
import Derived.Test.YthijpbakhnakeaaDoorOpen
namespace Go.Proofs.YthijpbakhnakeaaDoor
open Go.ChangeShapes Go.WideShapes Go.ChangeAt Go.RowKit

/-- An int as a cell. -/
def i8 (x : Int) : Value := .int .i64 x
/-- A slice that reads as these ints, each within its bounds. -/
structure RdI (w : World) (A : Option Addr) (n c : Nat) (zs : List Int) : Prop where
  rd : Rd w 1 A n c (zs.map i8)
  lo : ∀ z ∈ zs, -9223372036854775808 ≤ z
  hi : ∀ z ∈ zs, z ≤ 9223372036854775807
theorem RdI.below {w w' : World} {A : Option Addr} {n c : Nat} {zs : List Int} (h : RdI w A n c zs) (hb : Below w.heap.size w w') : RdI w' A n c zs := ⟨h.rd.below hb, h.lo, h.hi⟩

theorem rd_i64s {w : World} {a : Option Addr} {len cap : Nat} {zs : List Int}
    (h : (a = none ∧ len = 0 ∧ cap = 0 ∧ zs = []) ∨ ∃ x, a = some x ∧ len ≤ cap ∧ cap ≤ maxLen ∧ zs.length = cap ∧ (∀ i, i < zs.length → w.cell? (x.add i) = some (.int .i64 (zs.getD i 0))) ∧ ∀ n ∈ zs, (Lit.int .i64 n).wf = true) :
    ∃ l : List Int, RdI w a len cap l := by
  rcases h with ⟨rfl, rfl, rfl, rfl⟩ | ⟨x, rfl, hl, hm, hz, hcell, hwz⟩
  · exact ⟨[], Rd.nil_ w 1, by simp, by simp⟩
  · refine ⟨zs.take len, ⟨by simp; omega, hl, hm, (fun h => by cases h), fun j u hu => ?_⟩, fun z hz => (wfb_i64 (hwz z (List.mem_of_mem_take hz))).1, fun z hz => (wfb_i64 (hwz z (List.mem_of_mem_take hz))).2⟩
    rw [List.getElem?_map, List.getElem?_take] at hu
    split at hu
    · have hjz : j < zs.length := by omega
      rw [List.getElem?_eq_getElem hjz] at hu
      simp only [Option.map_some, Option.some.injEq] at hu
      subst hu
      have hc := hcell j hjz
      rw [at_some, hc]
      simp only [List.getD, List.getElem?_eq_getElem hjz, Option.getD_some]
      rfl
    · cases hu

end Go.Proofs.YthijpbakhnakeaaDoor
