/-
  The library's formatBits at base 16.
-/
import Derived.Test.YthijpbakhnakeaaDoorHexA
import Derived.Lib.LaidTab
import Derived.LaidMore
namespace Go.Proofs.YthijpbakhnakeaaDoor
open Go.RowKit

def deb64 : List Int := [0, 1, 56, 2, 57, 49, 28, 3, 61, 58, 42, 50, 38, 29, 17, 4, 62, 47, 59, 36, 45, 43, 51, 22, 53, 39, 33, 30, 24, 18, 12, 5, 63, 55, 48, 27, 60, 41, 37, 16, 46, 35, 44, 21, 52, 32, 23, 11, 54, 26, 40, 15, 34, 20, 31, 10, 25, 14, 19, 9, 13, 8, 7, 6]
/-- The table of the lowest bit's place is laid. -/
def HTab (w : World) : Prop := Lib.TabIs Tryd.prog w "math/bits.deBruijn64tab" .u8 deb64
theorem deb_global : Tryd.prog.globalNamed "math/bits.deBruijn64tab" = some 2 := by kernel_rfl
theorem HTab.below {w w' : World} (h : HTab w) (hb : Below w.heap.size w w') : HTab w' := by
  unfold HTab Lib.TabIs World.var? at *
  rw [deb_global] at *
  dsimp only [Option.bind_some] at *
  have hlt : 2 < w.heap.size := by
    by_cases h' : 2 < w.heap.size
    · exact h'
    · rw [Array.getElem?_eq_none (by omega)] at h
      cases h
  rw [hb.block 2 hlt]
  exact h
theorem HTab.cell {w : World} (h : HTab w) : w.cell? ⟨2, 15, none⟩ = some (.int .u8 4) := Lib.TabIs.cell h deb_global 15 (by decide)

set_option maxRecDepth 20000 in
set_option maxHeartbeats 1000000 in
theorem Zeros64_16 (w : World) (h : HTab w) : Calls Tryd.prog 35 #[.int .u64 16] w fun e w' => e = .returned (.int .i64 4) ∧ w = w' := by
  have hc := h.cell
  have e1 : bits .and .u64 16 (IntKind.u64.wrap (-16)) = 16 := by decide +kernel
  have e2 : IntKind.u64.wrap (16 * 285870213051353865) / 288230376151711744 = 15 := by decide +kernel
  clear h
  go_enter Tryd.func35, Tryd.ntmps35
  go_wp2_with fail
  go_ret
  exact ⟨rfl, rfl⟩
theorem Zeros_16 (w : World) (h : HTab w) : Calls Tryd.prog 33 #[.int .u64 16] w fun e w' => e = .returned (.int .i64 4) ∧ w = w' := by
  have hc := Zeros64_16 w h
  clear h
  go_enter Tryd.func33, Tryd.ntmps33
  go_wp2_with fail
  refine hc.mono ?_
  rintro e w' ⟨rfl, rfl⟩
  go_wp2_with fail
  go_ret
  exact ⟨rfl, rfl⟩

end Go.Proofs.YthijpbakhnakeaaDoor
