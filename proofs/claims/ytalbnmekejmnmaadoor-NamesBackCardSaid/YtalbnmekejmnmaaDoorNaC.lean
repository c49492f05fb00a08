/-
  Package names: Print by the shelf's contract, Number of "17", begun; the document's May; NamesMay.
-/
import Derived.Test.YtalbnmekejmnmaaDoorNaB
import Derived.Test.YtalbnmekejmnmaaDoorNaD
import Derived.Test.YtalbnmekejmnmaaDoorShelf
import Derived.Lib.LaidTab
import Derived.LaidMore
import Derived.Shelf.Unicode.PredsPay
import Derived.Shelf.SlSorted.Search
namespace Go.Proofs.YtalbnmekejmnmaaDoor
open Go.RowKit

/-- The table of powers of ten is laid. -/
def Tab (w : World) : Prop := Lib.TabIs Tryd.prog w "internal/strconv.uint64pow10" .u64 Lib.pow10Tab
theorem pow_global : ∃ g, Tryd.prog.globalNamed "internal/strconv.uint64pow10" = some g ∧ (Tryd.prog.globals[g]?).map (·.type) = some 57 := by
  first
    | exact ⟨0, by kernel_rfl, by kernel_rfl⟩
    | exact ⟨1, by kernel_rfl, by kernel_rfl⟩
    | exact ⟨2, by kernel_rfl, by kernel_rfl⟩
    | exact ⟨3, by kernel_rfl, by kernel_rfl⟩
theorem tab_of {W : World} (h : laidMetH Tryd.prog Rows.namesMayRow.laid W) : Tab W := by
  rw [MakeChecks.laidMetH_plain _ _ _ (by kernel_rfl)] at h
  obtain ⟨ps, ⟨_, _, _, _, _, _, _, _, _, _, ⟨_, _, _, _, _, _, _, _, _, _, ⟨g, t, cs, f, p, q, hg, ht, hv, hd, _, _⟩, _⟩, _⟩, _, _⟩ := h
  have e : (Rows.laid_internal_strconv_uint64pow10 : DataW Unit) = Lib.tabData .u64 Lib.pow10Tab := by rfl
  obtain ⟨g', hg', ht'⟩ := pow_global
  obtain rfl := Option.some.inj (hg'.symm.trans hg)
  obtain rfl := Option.some.inj (ht'.symm.trans ht)
  rw [e] at hd
  unfold Tab Lib.TabIs
  rw [hv, ← Lib.cells_of_tab Tryd.underlying57 Tryd.underlying48 (by kernel_rfl) (by kernel_rfl) hd]
theorem Tab.below {w w' : World} (h : Tab w) (hb : Below w.heap.size w w') : Tab w' := by
  obtain ⟨g, hg, _⟩ := pow_global
  exact Go.Proofs.TabIs_below hg h hb

/-- A number's text. -/
def printB (n : Int) : ByteArray := ⟨(Lib.itoa n).toArray⟩
theorem Print_any (n : Int) (h0 : -9223372036854775808 ≤ n) (h1 : n ≤ 9223372036854775807) (w : World) (ht : Tab w) : Calls Tryd.prog 14 #[.int .i64 n] w fun e w' => e = .returned (.string (printB n)) ∧ Below w.heap.size w w' := by
  have HI := Lib.hid (Tryd.strconv_FormatInt_10 n h0 h1 w ht)
  go_enter Tryd.func14, Tryd.ntmps14
  go_wp2_with fail
  refine HI.out.mono ?_
  rintro e w1 ⟨rfl, k, os, hw⟩
  have hb : Below w.heap.size w w1 := by
    rw [hw]
    exact Go.Proofs.below_grown_sl _ w k os (Nat.le_refl _)
  clear hw
  go_wp2_with fail
  go_ret
  exact ⟨rfl, hb⟩
theorem print_5 : printB (-5) = ⟨#[45, 53]⟩ := by decide +kernel

/-! ### Number of "17" -/
set_option maxRecDepth 20000 in
set_option maxHeartbeats 2000000 in
theorem Number_17 (w : World) : Calls Tryd.prog 17 #[.string ⟨#[49, 55]⟩] w fun e w' => e = .returned (.tuple #[.int .i64 17, .int .i64 0]) ∧ w = w' := by
  go_enter Tryd.func17, Tryd.ntmps17
  go_wp2_with fail
  go_loop [10] (fun i => i = .int .i64 0 ∨ i = .int .i64 1 ∨ i = .int .i64 2) (fun i => 2 - (intOf i).toNat)
  case atStart => exact .inl rfl
  case round =>
    rcases hrel with rfl | rfl | rfl
    · go_wp2_with fail
      exact ⟨.inr (.inl rfl), by decide⟩
    · go_wp2_with fail
      exact ⟨.inr (.inr rfl), by decide⟩
    · go_wp2_with fail
      go_loop [5, 38] (fun n i => (n = .int .i64 0 ∧ i = .int .i64 0) ∨ (n = .int .i64 1 ∧ i = .int .i64 1) ∨ (n = .int .i64 17 ∧ i = .int .i64 2)) (fun _ i => 2 - (intOf i).toNat)
      case atStart => exact .inl ⟨rfl, rfl⟩
      case round =>
        rcases hrel with ⟨rfl, rfl⟩ | ⟨rfl, rfl⟩ | ⟨rfl, rfl⟩
        · go_wp2_with fail
          exact ⟨.inr (.inl ⟨rfl, rfl⟩), by decide⟩
        · go_wp2_with fail
          exact ⟨.inr (.inr ⟨rfl, rfl⟩), by decide⟩
        · go_wp2_with fail
          go_ret2
          exact ⟨rfl, rfl⟩

theorem may_a1 : nameB ⟨#[97, 45, 49]⟩ = true := by
  refine nameB_yes ⟨by decide, by decide, fun _ => by decide +revert, fun k hk => ?_⟩
  have hk' : k < 3 := hk
  match k, hk' with
  | 0, _ => exact .inl (by decide +revert)
  | 1, _ => exact .inr (.inr (by decide +revert))
  | 2, _ => exact .inr (.inl (by decide +revert))
theorem hex_begun (w : World) : Calls Tryd.prog 12 #[.slice (some ⟨w.heap.size, 0, none⟩) 2 2] (w.alloc (.cells #[.int .u8 10, .int .u8 255] 5)) fun e w' => e = .returned (.string ⟨#[48, 97, 102, 102]⟩) ∧ Below w.heap.size (w.alloc (.cells #[.int .u8 10, .int .u8 255] 5)) w' := by
  have h := Hex_any (some ⟨w.heap.size, 0, none⟩) 2 2 [10, 255] _ (Rd.lit w [.int .u8 10, .int .u8 255] 5 2 rfl (by decide)) (by omega)
  refine h.mono ?_
  rintro e w' ⟨rfl, hb⟩
  exact ⟨by rfl, hb.mono (by simp)⟩
theorem print_begun (w : World) (ht : Tab w) : Calls Tryd.prog 14 #[.int .i64 (-5)] w fun e w' => e = .returned (.string ⟨#[45, 53]⟩) ∧ Below w.heap.size w w' := by
  have h := Print_any (-5) (by omega) (by omega) w ht
  rw [print_5] at h
  exact h
theorem may_begun (w : World) : Calls Tryd.prog 9 #[.string ⟨#[97, 45, 49]⟩] w fun e w' => e = .returned (.bool true) ∧ w = w' := by
  have h := May_any ⟨#[97, 45, 49]⟩ w
  rw [may_a1] at h
  exact h
set_option maxRecDepth 20000 in
theorem begun_any (w : World) (ht : Tab w) : Calls Tryd.prog 8 #[] w fun e w' => e = .returned (.bool true) ∧ Below w.heap.size w w' := by
  go_enter Tryd.func8, Tryd.ntmps8
  go_wp2_with fail
  refine (Number_17 _).mono ?_
  rintro e w1 ⟨rfl, rfl⟩
  go_wp2_with fail
  refine (may_begun _).mono ?_
  rintro e w1 ⟨rfl, rfl⟩
  go_wp2_with fail
  refine (hex_begun _).mono ?_
  rintro e w1 ⟨rfl, hb1⟩
  have hb : Below w.heap.size w w1 := ((Below.refl _ _).alloc (Nat.le_refl _) _).trans hb1
  have HP := Lib.hid (print_begun w1 (ht.below hb))
  have Hb := Lib.hid hb
  clear hb hb1
  go_wp2_with fail
  refine HP.out.mono ?_
  rintro e w2 ⟨rfl, hb2⟩
  go_wp2_with fail
  go_ret
  have hb1 := Hb.out
  exact ⟨rfl, hb1.trans (hb2.mono hb1.size)⟩

theorem namesMay_walk {w : World} (ht : Tab w) (s : ByteArray) (_ : s.size ≤ maxLen) : Calls Tryd.prog 3 #[.string s] w fun e w' => e = .returned (.bool true) ∧ Below w.heap.size w w' := by
  have HB := Lib.hid (begun_any w ht)
  by_cases hs : (4096 : Int) < s.size
  · go_enter Tryd.func3, Tryd.ntmps3
    go_wp2_with fail
    refine HB.out.mono ?_
    rintro e w1 ⟨rfl, hb1⟩
    go_wp2_with fail
    go_ret
    exact ⟨rfl, hb1⟩
  · have hs' : (s.size : Int) ≤ 4096 := by omega
    clear hs
    go_enter Tryd.func3, Tryd.ntmps3
    go_wp2_with fail
    refine HB.out.mono ?_
    rintro e w1 ⟨rfl, hb1⟩
    go_wp2_with fail
    refine (May_any s _).mono ?_
    rintro e w2 ⟨rfl, rfl⟩
    go_wp2_with fail
    refine (RMay_any s _).mono ?_
    rintro e w2 ⟨rfl, rfl⟩
    go_wp2_with fail
    go_ret
    exact ⟨by simp, hb1⟩

end Go.Proofs.YtalbnmekejmnmaaDoor
