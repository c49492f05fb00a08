/-
  The table that is laid: of the rows of this seat.
-/
import Derived.Test.YthijpbakhnakeaaDoorHexB
import Derived.Lib.LaidTab
namespace Go.Proofs.YthijpbakhnakeaaDoor
open Go.RowKit

theorem deb_type : (Tryd.prog.globals[2]?).map (·.type) = some 66 := by kernel_rfl
theorem tab_of {W : World} (h : laidMetH Tryd.prog Rows.chunkWritesRow.laid W) : HTab W := by
  rw [MakeChecks.laidMetH_plain _ _ _ (by kernel_rfl)] at h
  obtain ⟨ps, ⟨_, _, _, _, _, _, _, _, _, _, ⟨g, t, cs, f, p, q, hg, ht, hv, hd, _, _⟩, _⟩, _, _⟩ := h
  have e : (Rows.laid_math_bits_deBruijn64tab : DataW Unit) = Lib.tabData .u8 deb64 := by rfl
  obtain rfl := Option.some.inj (deb_global.symm.trans hg)
  obtain rfl := Option.some.inj (deb_type.symm.trans ht)
  rw [e] at hd
  unfold HTab Lib.TabIs
  rw [hv, ← Lib.cells_of_tab Tryd.underlying66 Tryd.underlying5 (by kernel_rfl) (by kernel_rfl) hd]

end Go.Proofs.YthijpbakhnakeaaDoor
