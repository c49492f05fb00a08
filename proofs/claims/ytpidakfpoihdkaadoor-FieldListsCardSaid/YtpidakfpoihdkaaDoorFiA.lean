/-
  Package field: the library's Cut, Trim, Split in plain words; letter.
-/
import Derived.Test.YtpidakfpoihdkaaDoorShelf
import Derived.Test.YtpidakfpoihdkaaDoorCut1
import Derived.Test.YtpidakfpoihdkaaDoorStrs
import Derived.Test.YtpidakfpoihdkaaDoorElem
import Derived.Shelf.Strings.SlTrimAscii
import Derived.Shelf.SlSorted.Search
namespace Go.Proofs.YtpidakfpoihdkaaDoor
open Go.RowKit

/-- The library's variable holds some integer. -/
def Mx (w : World) : Prop := ∃ m, w.cell? ⟨0, 0, none⟩ = some (.int .i64 m)
theorem Mx.below {w w' : World} (h : Mx w) (hb : Below w.heap.size w w') : Mx w' := by
  obtain ⟨m, hm⟩ := h
  have hlt := World.block_lt_of_cell? w _ hm
  exact ⟨m, by rw [← hm]; exact World.cell?_of_block (hb.block 0 hlt)⟩
theorem Cut_any (c : UInt8) (s : List UInt8) (hs : s.length < 4294967281) (w : World) (hm : Mx w) :
    Calls Tryd.prog 18 #[.string ⟨s.toArray⟩, .string ⟨#[c]⟩] w fun e w' => e = .returned (.tuple #[.string ⟨(cut1 c s).1.toArray⟩, .string ⟨(cut1 c s).2.1.toArray⟩, .bool (cut1 c s).2.2]) ∧ Below w.heap.size w w' := by
  obtain ⟨m, hm⟩ := hm
  refine (Tryd.strings_Cut ⟨s.toArray⟩ ⟨#[c]⟩ m w (by rw [size_mk]; exact hs) hm).mono ?_
  rintro e w' ⟨rfl, q, rfl⟩
  refine ⟨?_, below_drewN (Below.refl _ _) q⟩
  have e1 : Lib.cut (⟨s.toArray⟩ : ByteArray).data.toList (⟨#[c]⟩ : ByteArray).data.toList = cut1 c s := cut_one c s
  rw [e1]
def blk2 : List UInt8 := [32, 9]
/-- Without blanks at both ends. -/
def trimL (s : List UInt8) : List UInt8 := Lib.trimS s blk2
theorem Trim_any (s : List UInt8) (hs : s.length ≤ 1073741824) (w : World) :
    Calls Tryd.prog 21 #[.string ⟨s.toArray⟩, .string ⟨#[32, 9]⟩] w fun e w' => e = .returned (.string ⟨(trimL s).toArray⟩) ∧ Below w.heap.size w w' :=
  Any.strings_Trim_laid Tryd.lays160 (by kernel_rfl) ⟨s.toArray⟩ ⟨#[32, 9]⟩ w (by rw [size_mk]; omega) (by decide) (ascii_of_all (by decide))
theorem Split_any (c : UInt8) (s : List UInt8) (hs : s.length < 4294967281) (w : World) (hm : Mx w) :
    Calls Tryd.prog 24 #[.string ⟨s.toArray⟩, .string ⟨#[c]⟩] w fun e w' => e = .returned (.slice (some ⟨w.heap.size, 0, none⟩) (split1 c s).length (split1 c s).length) ∧ w' = w.alloc (.cells ((split1 c s).map fun p => Value.string ⟨p.toArray⟩).toArray 9) := by
  obtain ⟨m, hm⟩ := hm
  refine (Tryd.strings_Split ⟨s.toArray⟩ ⟨#[c]⟩ m w (by rw [size_mk]; exact hs) hm (show 1 ≤ (⟨#[c]⟩ : ByteArray).size from Nat.le_refl 1)).mono ?_
  rintro e w' ⟨rfl, rfl⟩
  have h1 : (Lib.splitB ⟨#[c]⟩ 0 (Lib.countB ⟨s.toArray⟩ ⟨#[c]⟩) ⟨s.toArray⟩).map (·.data.toList) = split1 c s := by
    rw [Lib.splitB_data]
    exact splitK_one c _ s rfl
  have h2 : (Lib.splitB ⟨#[c]⟩ 0 (Lib.countB ⟨s.toArray⟩ ⟨#[c]⟩) ⟨s.toArray⟩).length = Lib.countB ⟨s.toArray⟩ ⟨#[c]⟩ + 1 := Lib.splitB_all _ (show 1 ≤ (⟨#[c]⟩ : ByteArray).size from Nat.le_refl 1) 0 _ _ rfl
  have h3 : (split1 c s).length = Lib.countB ⟨s.toArray⟩ ⟨#[c]⟩ + 1 := by rw [← h1, List.length_map, h2]
  have h4 : (Lib.splitB ⟨#[c]⟩ 0 (Lib.countB ⟨s.toArray⟩ ⟨#[c]⟩) ⟨s.toArray⟩).map Value.string = (split1 c s).map fun p => Value.string ⟨p.toArray⟩ := by
    rw [← h1, List.map_map]
    rfl
  rw [h3, h4]
  exact ⟨rfl, rfl⟩

/-! ### letter -/
def isL (x : UInt8) : Bool := (decide (97 ≤ x.toNat) && decide (x.toNat ≤ 122)) || (decide (65 ≤ x.toNat) && decide (x.toNat ≤ 90))
theorem or32' : ∀ c : Fin 256, c.1 ||| 32 = if c.1 / 32 % 2 = 1 then c.1 else c.1 + 32 := by decide +kernel
theorem or32 (c : Nat) (h : c < 256) : bits .or .u8 (c : Int) 32 = ((c ||| 32 : Nat) : Int) := u8_or_nat c 32 h (by omega)
theorem letter_fin : ∀ c : Fin 256, (decide (97 ≤ c.1 ||| 32) && decide (c.1 ||| 32 ≤ 122) && decide (65 ≤ c.1)) = ((decide (97 ≤ c.1) && decide (c.1 ≤ 122)) || (decide (65 ≤ c.1) && decide (c.1 ≤ 90))) := by decide +kernel
set_option maxHeartbeats 1000000 in
theorem letter_any (x : UInt8) (w : World) : Calls Tryd.prog 19 #[.int .u8 (x.toNat : Int)] w fun e w' => e = .returned (.bool (isL x)) ∧ w = w' := by
  have hx := x.toNat_lt
  have hor := or32 x.toNat hx
  have hf := letter_fin ⟨x.toNat, hx⟩
  dsimp only at hf
  have hL : isL x = (decide (97 ≤ x.toNat ||| 32) && decide (x.toNat ||| 32 ≤ 122) && decide (65 ≤ x.toNat)) := by unfold isL; rw [hf]
  obtain ⟨y, hy⟩ : ∃ y, x.toNat ||| 32 = y := ⟨_, rfl⟩
  obtain ⟨z, hz⟩ : ∃ z, x.toNat = z := ⟨_, rfl⟩
  rw [hy] at hor hL
  rw [hz] at hor hL ⊢
  have HL := Lib.hid hL
  clear hf hL hy hz hx
  by_cases h1 : (97 : Int) ≤ y
  · by_cases h2 : (y : Int) ≤ 122
    · by_cases h3 : (65 : Int) ≤ z
      · have e : isL x = true := by rw [HL.out]; simp; omega
        rw [e]
        clear e
        go_enter Tryd.func19, Tryd.ntmps19
        go_wp2_with fail
        go_ret
        exact ⟨rfl, rfl⟩
      · have e : isL x = false := by rw [HL.out]; simp; omega
        rw [e]
        have h3' : decide ((65 : Int) ≤ z) = false := decide_eq_false h3
        clear e h3
        go_enter Tryd.func19, Tryd.ntmps19
        go_wp2_with fail
        go_ret
        exact ⟨rfl, rfl⟩
    · have e : isL x = false := by rw [HL.out]; simp; omega
      rw [e]
      have h2' : decide ((y : Int) ≤ 122) = false := decide_eq_false h2
      clear e h2
      go_enter Tryd.func19, Tryd.ntmps19
      go_wp2_with fail
      go_ret
      exact ⟨rfl, rfl⟩
  · have e : isL x = false := by rw [HL.out]; simp; omega
    rw [e]
    have h1' : decide ((97 : Int) ≤ y) = false := decide_eq_false h1
    clear e h1
    go_enter Tryd.func19, Tryd.ntmps19
    go_wp2_with fail
    go_ret
    exact ⟨rfl, rfl⟩

end Go.Proofs.YtpidakfpoihdkaaDoor
