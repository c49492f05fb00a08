/-
  How a reply that came in is opened.
-/
import Derived.Test.YtogkmlodcdgegaaDoorReB
import Derived.Test.YtogkmlodcdgegaaDoorOpen2
import Derived.Deep.Strs
namespace Go.Proofs.YtogkmlodcdgegaaDoor
open Go.ChangeShapes Go.WideShapes Go.ChangeAt Go.RowKit Go.Deep

theorem cells_rp : Tryd.prog.cellsOf 24 = 3 := by kernel_rfl
theorem cells_int : Tryd.prog.cellsOf 3 = 1 := by kernel_rfl
theorem cells_bs : Tryd.prog.cellsOf 22 = 1 := by kernel_rfl
theorem cells_bool : Tryd.prog.cellsOf 4 = 1 := by kernel_rfl
theorem cells_byte : Tryd.prog.cellsOf 5 = 1 := by kernel_rfl
theorem open_rp {H : Type} {enc : TypeId × Value → H} {w : World} {r : Reach} {b0 : Nat} {v : Value} {d : DataW H} {p : List MemPlace}
    (hv : Value.okWide Tryd.prog w r b0 24 v) (h : DataW.Trod enc Tryd.prog w 0 (fun _ => true) true 24 v d p) :
    ∃ (t : Int) (A : Option Addr) (n c : Nat) (l : List UInt8) (b : Bool), v = .agg (rpA t A n c b) ∧ -9223372036854775808 ≤ t ∧ t ≤ 9223372036854775807 ∧ Rd w 1 A n c (l.map b8) := by
  obtain ⟨cs, rfl, hsz⟩ := okWide_struct Tryd.underlying24 hv
  obtain ⟨fuel, hf⟩ := h
  obtain ⟨y0, y1, y2, n, _, hl, h0, h1, h2⟩ := trod_struct3 Tryd.underlying24 hf
  rw [cells_rp] at hl hsz
  obtain ⟨t, e0, _, hwt⟩ := DataW.trod_int Tryd.underlying3 h0
  obtain ⟨row, e1, hr⟩ := row_of Tryd.underlying22 Tryd.underlying5 cells_byte h1
  obtain ⟨b, e2, _⟩ := DataW.trod_bool Tryd.underlying4 h2
  obtain ⟨ls⟩ := cs
  simp only [Value.cells, cells_int, cells_bs, cells_bool, List.drop_zero] at hl h0 e0 e1 e2
  have hls : ls.length = 3 := by simpa using hl
  have hb := wfb_i64 hwt
  refine ⟨t, row.A, row.n, row.c, row.l, b, ?_, hb.1, hb.2, hr⟩
  congr 1
  unfold rpA
  congr 1
  match ls, hls with
  | [x, y, z], _ =>
    simp at e0 e1 e2
    rw [e0, e1, e2]
    rfl

end Go.Proofs.YtogkmlodcdgegaaDoor
