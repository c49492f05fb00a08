/-
  Package names: Print, by the shelf's contract.
-/
import Derived.Test.YtogkmlodcdgegaaDoorBase
import Derived.Test.YtogkmlodcdgegaaDoorShelf
import Derived.Lib.LaidTab
import Derived.LaidMore
import Derived.Shelf.SlSorted.Search
namespace Go.Proofs.YtogkmlodcdgegaaDoor
open Go.RowKit

/-- The table of powers of ten is laid. -/
def Tab (w : World) : Prop := Lib.TabIs Tryd.prog w "internal/strconv.uint64pow10" .u64 Lib.pow10Tab
theorem pow_global : ∃ g, Tryd.prog.globalNamed "internal/strconv.uint64pow10" = some g ∧ (Tryd.prog.globals[g]?).map (·.type) = some 63 := by
  first
    | exact ⟨0, by kernel_rfl, by kernel_rfl⟩
    | exact ⟨1, by kernel_rfl, by kernel_rfl⟩
    | exact ⟨2, by kernel_rfl, by kernel_rfl⟩
    | exact ⟨3, by kernel_rfl, by kernel_rfl⟩
theorem Tab.below {w w' : World} (h : Tab w) (hb : Below w.heap.size w w') : Tab w' := by
  obtain ⟨g, hg, _⟩ := pow_global
  unfold Tab Lib.TabIs World.var? at *
  rw [hg] at h ⊢
  dsimp only [Option.bind_some] at h ⊢
  have hlt : g < w.heap.size := by
    by_cases h' : g < w.heap.size
    · exact h'
    · rw [Array.getElem?_eq_none (by omega)] at h
      cases h
  rw [hb.block g hlt]
  exact h
/-- A number's text. -/
def printB (n : Int) : ByteArray := ⟨(Lib.itoa n).toArray⟩
theorem Print_any (n : Int) (h0 : -9223372036854775808 ≤ n) (h1 : n ≤ 9223372036854775807) (w : World) (ht : Tab w) : Calls Tryd.prog 20 #[.int .i64 n] w fun e w' => e = .returned (.string (printB n)) ∧ Below w.heap.size w w' := by
  have HI := Lib.hid (Tryd.strconv_FormatInt_10 n h0 h1 w ht)
  go_enter Tryd.func20, Tryd.ntmps20
  go_wp2_with fail
  refine HI.out.mono ?_
  rintro e w1 ⟨rfl, k, os, hw⟩
  have hb : Below w.heap.size w w1 := by
    rw [hw]
    exact Go.Proofs.below_grown_sl _ w k os (Nat.le_refl _)
  clear hw
  go_wp2_with fail
  go_ret
  exact ⟨rfl, hb⟩

end Go.Proofs.YtogkmlodcdgegaaDoor
