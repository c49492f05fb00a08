/-
  The library's Cut and Split in plain words.
-/
import Derived.Test.YteldghiejmpknaaDoorShelf
import Derived.Test.YteldghiejmpknaaDoorCut1
import Derived.Test.YteldghiejmpknaaDoorStrs
import Derived.Test.YteldghiejmpknaaDoorElem
namespace Go.Proofs.YteldghiejmpknaaDoor
open Go.RowKit

/-- The library's variable holds some integer. -/
def Mx (w : World) : Prop := ∃ m, w.cell? ⟨0, 0, none⟩ = some (.int .i64 m)
theorem Mx.below {w w' : World} (h : Mx w) (hb : Below w.heap.size w w') : Mx w' := by
  obtain ⟨m, hm⟩ := h
  have hlt := World.block_lt_of_cell? w _ hm
  exact ⟨m, by rw [← hm]; exact World.cell?_of_block (hb.block 0 hlt)⟩
theorem Cut_any (c : UInt8) (s : List UInt8) (hs : s.length < 4294967281) (w : World) (hm : Mx w) :
    Calls Tryd.prog 20 #[.string ⟨s.toArray⟩, .string ⟨#[c]⟩] w fun e w' => e = .returned (.tuple #[.string ⟨(cut1 c s).1.toArray⟩, .string ⟨(cut1 c s).2.1.toArray⟩, .bool (cut1 c s).2.2]) ∧ Below w.heap.size w w' := by
  obtain ⟨m, hm⟩ := hm
  refine (Tryd.strings_Cut ⟨s.toArray⟩ ⟨#[c]⟩ m w (by rw [size_mk]; exact hs) hm).mono ?_
  rintro e w' ⟨rfl, q, rfl⟩
  refine ⟨?_, below_drewN (Below.refl _ _) q⟩
  have e1 : Lib.cut (⟨s.toArray⟩ : ByteArray).data.toList (⟨#[c]⟩ : ByteArray).data.toList = cut1 c s := cut_one c s
  rw [e1]
theorem Split_any (c : UInt8) (s : List UInt8) (hs : s.length < 4294967281) (w : World) (hm : Mx w) :
    Calls Tryd.prog 32 #[.string ⟨s.toArray⟩, .string ⟨#[c]⟩] w fun e w' => e = .returned (.slice (some ⟨w.heap.size, 0, none⟩) (split1 c s).length (split1 c s).length) ∧ w' = w.alloc (.cells ((split1 c s).map fun p => Value.string ⟨p.toArray⟩).toArray 9) := by
  obtain ⟨m, hm⟩ := hm
  refine (Tryd.strings_Split ⟨s.toArray⟩ ⟨#[c]⟩ m w (by rw [size_mk]; exact hs) hm (show 1 ≤ (⟨#[c]⟩ : ByteArray).size from Nat.le_refl 1)).mono ?_
  rintro e w' ⟨rfl, rfl⟩
  have h1 : (Lib.splitB ⟨#[c]⟩ 0 (Lib.countB ⟨s.toArray⟩ ⟨#[c]⟩) ⟨s.toArray⟩).map (·.data.toList) = split1 c s := by
    rw [Lib.splitB_data]
    exact splitK_one c _ s rfl
  have h2 : (Lib.splitB ⟨#[c]⟩ 0 (Lib.countB ⟨s.toArray⟩ ⟨#[c]⟩) ⟨s.toArray⟩).length = Lib.countB ⟨s.toArray⟩ ⟨#[c]⟩ + 1 := Lib.splitB_all _ (show 1 ≤ (⟨#[c]⟩ : ByteArray).size from Nat.le_refl 1) 0 _ _ rfl
  have h3 : (split1 c s).length = Lib.countB ⟨s.toArray⟩ ⟨#[c]⟩ + 1 := by rw [← h1, List.length_map, h2]
  have h4 : (Lib.splitB ⟨#[c]⟩ 0 (Lib.countB ⟨s.toArray⟩ ⟨#[c]⟩) ⟨s.toArray⟩).map Value.string = (split1 c s).map fun p => Value.string ⟨p.toArray⟩ := by
    rw [← h1, List.map_map]
    rfl
  rw [h3, h4]
  exact ⟨rfl, rfl⟩

end Go.Proofs.YteldghiejmpknaaDoor
