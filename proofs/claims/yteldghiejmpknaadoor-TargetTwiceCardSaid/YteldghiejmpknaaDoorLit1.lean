/-
  A literal of one element, ahead of an append: the world behind it is named.
-/
import Derived.Test.YteldghiejmpknaaDoorElem
import Derived.Great.BuildSlice
namespace Go.Proofs.YteldghiejmpknaaDoor
open Go.RowKit

section
variable {P : Program} {ops : Array Oper} {rest : List Oper} {o : Oper} {a : Act} {Q : Exit → Act → World → Prop} {w : World}
theorem wpList_lit1 {t e : TypeId} {z : Value} {bytes : Nat} {x : Operand} {v : Value} (hgd : o.guard = none) (ho : o.op = .buildSlice t 1 #[(0, x)]) (et : ElemT P t e z 1 bytes) (hx : a.eval x = v)
    (hf : Instr.fill (fun i => some (i * 1, 1)) ((Array.range (1 * 1)).map (z.cells[· % z.cells.size]!)) [(0, v)] = some #[v])
    (k : ∀ w', w' = w.alloc (.cells #[v] e) → wpList P ops Q rest (a.put o.dst (.slice (some ⟨w.heap.size, 0, none⟩) 1 1)) w') : wpList P ops Q (o :: rest) a w := by
  obtain ⟨ie, hie, hz, hs, _⟩ := et.info
  refine wpList_buildSlice hgd t e 1 _ ho #[v] ie z et.und hie hz (by rw [hs]; decide) (by rw [hs]; decide) ?_ (k _ rfl)
  rw [hs]
  have e : ((#[(0, x)] : Array (Nat × Operand)).map fun (i, x) => (i, a.eval x)).toList = [(0, v)] := by
    simp [hx]
  rw [e]
  exact hf
end
theorem fill_u8 (y : Int) : Instr.fill (fun i => some (i * 1, 1)) ((Array.range (1 * 1)).map ((Value.int .u8 0).cells[· % (Value.int .u8 0).cells.size]!)) [(0, .int .u8 y)] = some #[.int .u8 y] := by kernel_rfl
theorem fill_str (s : ByteArray) : Instr.fill (fun i => some (i * 1, 1)) ((Array.range (1 * 1)).map ((Value.string ByteArray.empty).cells[· % (Value.string ByteArray.empty).cells.size]!)) [(0, .string s)] = some #[.string s] := by kernel_rfl
/-- What stands behind a literal of one byte. -/
theorem lit1_own {w w' : World} {v : Value} {base : Nat} {t e : TypeId} {size : Nat} {A : Option Addr} {n c : Nat} {xs : List Value} (h : w' = w.alloc (.cells #[v] t)) (ho : Own w base e size A n c xs) : Own w' base e size A n c xs := by
  rw [h]
  exact ho.alloc _
theorem lit1_rd {w w' : World} {v : Value} {t : TypeId} (h : w' = w.alloc (.cells #[v] t)) : Rd w' 1 (some ⟨w.heap.size, 0, none⟩) 1 1 [v] := by
  rw [h]
  exact Rd.lit w [v] t 1 rfl (by unfold maxLen; omega)
theorem lit1_below {w0 w w' : World} {v : Value} {B : Nat} {t : TypeId} (h : w' = w.alloc (.cells #[v] t)) (hb : Below B w0 w) (hB : B ≤ w.heap.size) : Below B w0 w' := by
  rw [h]
  exact hb.alloc hB _

end Go.Proofs.YteldghiejmpknaaDoor
