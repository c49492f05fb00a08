/-
  Words of all sets; the law RightsBack.
-/
import Derived.Test.YtegdepimddlphaaDoorRiE
import Derived.Test.YtegdepimddlphaaDoorShelf
import Derived.Lib.LaidTab
import Derived.LaidMore
import Derived.Shelf.Unicode.PredsPay
import Derived.Shelf.SlSorted.Search
namespace Go.Proofs.YtegdepimddlphaaDoor
open Go.RowKit

/-- The table of powers of ten is laid. -/
def Tab (w : World) : Prop := Lib.TabIs Tryd.prog w "internal/strconv.uint64pow10" .u64 Lib.pow10Tab
theorem pow_global : ∃ g, Tryd.prog.globalNamed "internal/strconv.uint64pow10" = some g ∧ (Tryd.prog.globals[g]?).map (·.type) = some 50 := by
  first
    | exact ⟨0, by kernel_rfl, by kernel_rfl⟩
    | exact ⟨1, by kernel_rfl, by kernel_rfl⟩
    | exact ⟨2, by kernel_rfl, by kernel_rfl⟩
    | exact ⟨3, by kernel_rfl, by kernel_rfl⟩
theorem tab_of {W : World} (h : laidMetH Tryd.prog Rows.rightsBackRow.laid W) : Tab W := by
  rw [MakeChecks.laidMetH_plain _ _ _ (by kernel_rfl)] at h
  obtain ⟨ps, ⟨_, _, _, _, _, _, _, _, _, _, ⟨_, _, _, _, _, _, _, _, _, _, ⟨g, t, cs, f, p, q, hg, ht, hv, hd, _, _⟩, _⟩, _⟩, _, _⟩ := h
  have e : (Rows.laid_internal_strconv_uint64pow10 : DataW Unit) = Lib.tabData .u64 Lib.pow10Tab := by rfl
  obtain ⟨g', hg', ht'⟩ := pow_global
  obtain rfl := Option.some.inj (hg'.symm.trans hg)
  obtain rfl := Option.some.inj (ht'.symm.trans ht)
  rw [e] at hd
  unfold Tab Lib.TabIs
  rw [hv, ← Lib.cells_of_tab Tryd.underlying50 Tryd.underlying42 (by kernel_rfl) (by kernel_rfl) hd]
theorem Tab.below {w w' : World} (h : Tab w) (hb : Below w.heap.size w w') : Tab w' := by
  obtain ⟨g, hg, _⟩ := pow_global
  exact Go.Proofs.TabIs_below hg h hb

/-! ### Digits of numbers below 1000, by a count -/
def decF : Nat → Nat → List UInt8
  | 0, _ => []
  | f + 1, v => if v < 10 then [dgt v] else decF f (v / 10) ++ [dgt (v % 10)]
theorem decF_eq : ∀ (f v : Nat), v < 10 ^ f → 1 ≤ f → decL v = decF f v
  | 0, _, _, h => absurd h (by omega)
  | f + 1, v, h, _ => by
    rw [decF]
    by_cases h10 : v < 10
    · rw [if_pos h10, decL_small v h10]
    · rw [if_neg h10, decL_big v (by omega), decF_eq f (v / 10) (by rw [Nat.pow_succ] at h; omega) (by
        rcases Nat.eq_zero_or_pos f with h0 | h0
        · subst h0
          simp at h
          omega
        · exact h0)]
theorem dec_lib (v : Nat) : Lib.decDigits v = decL v := by
  induction v using Nat.strongRecOn with
  | ind v ih =>
    by_cases h : v < 10
    · rw [Lib.decDigits, dif_pos h, decL_small v h]
      rfl
    · rw [Lib.decDigits, dif_neg h, decL_big v (by omega), ih (v / 10) (by omega)]
      rfl
/-- How any set is written. -/
def wordA (a : Nat) : List UInt8 := if a < 16 then wordL a else decF 3 a
theorem parse_back : ∀ a : Fin 256, parseP (wordA a.1) 16 0 = if a.1 < 16 then (a.1, 0) else (0, 4) := by decide +kernel

theorem Itoa_any (v : Nat) (hv : v < 256) (w : World) (ht : Tab w) : Calls Tryd.prog 25 #[.int .i64 (v : Int)] w fun e w' => e = .returned (.string ⟨(decL v).toArray⟩) ∧ Below w.heap.size w w' := by
  refine (Tryd.strconv_Itoa (v : Int) (by omega) (by omega) w ht).mono ?_
  rintro e w' ⟨rfl, k, os, rfl⟩
  refine ⟨?_, Go.Proofs.below_grown_sl _ w k os (Nat.le_refl _)⟩
  unfold Lib.itoa
  rw [if_neg (by omega), Int.toNat_natCast, dec_lib]

theorem word_far {a : Nat} (h : ¬ a < 16) : ((a : Int) == 1) = false ∧ ((a : Int) == 3) = false ∧ ((a : Int) == 7) = false ∧ ((a : Int) == 15) = false := by
  refine ⟨?_, ?_, ?_, ?_⟩ <;> (simp; omega)
theorem Word_any (a : Nat) (ha : a < 256) (w : World) (ht : Tab w) : Calls Tryd.prog 11 #[.int .u8 (a : Int)] w fun e w' => e = .returned (.string ⟨(wordA a).toArray⟩) ∧ Below w.heap.size w w' := by
  unfold wordA
  by_cases h : a < 16
  · rw [if_pos h]
    refine (Word_16 h w).mono ?_
    rintro e w' ⟨rfl, rfl⟩
    exact ⟨rfl, Below.refl _ _⟩
  · rw [if_neg h, ← decF_eq 3 a (by omega) (by omega)]
    obtain ⟨e1, e2, e3, e4⟩ := word_far h
    have HI := Lib.hid (Itoa_any a ha w ht)
    have ha' : (a : Int) ≤ 255 := by omega
    go_enter Tryd.func11, Tryd.ntmps11
    go_wp2_with fail
    refine HI.out.mono ?_
    rintro e w1 ⟨rfl, hbl⟩
    go_wp2_with fail
    go_ret
    exact ⟨rfl, hbl⟩
theorem RWord_any (a : Nat) (ha : a < 256) (w : World) : Calls Tryd.prog 20 #[.int .u8 (a : Int)] w fun e w' => e = .returned (.string ⟨(wordA a).toArray⟩) ∧ w = w' := by
  unfold wordA
  by_cases h : a < 16
  · rw [if_pos h]
    exact RWord_16 h w
  · rw [if_neg h, ← decF_eq 3 a (by omega) (by omega)]
    obtain ⟨e1, e2, e3, e4⟩ := word_far h
    have HI := Lib.hid (Print_nonneg a w (by omega))
    have ha' : (a : Int) ≤ 255 := by omega
    go_enter Tryd.func20, Tryd.ntmps20
    go_wp2_with fail
    refine HI.out.mono ?_
    rintro e w1 ⟨rfl, rfl⟩
    go_wp2_with fail
    go_ret
    exact ⟨rfl, rfl⟩

theorem may_fin : ∀ a : Fin 256, (a.1 &&& (255 - 15) == 0) = decide (a.1 < 16) := by decide +kernel
theorem May_any (a : Nat) (ha : a < 256) (w : World) : Calls Tryd.prog 12 #[.int .u8 (a : Int)] w fun e w' => e = .returned (.bool (decide (a < 16))) ∧ w = w' := by
  have hc : (bits .andNot .u8 (a : Int) 15 == 0) = decide (a < 16) := by
    have h := u8_andNot_nat a 15 ha (by omega)
    have h2 := may_fin ⟨a, ha⟩
    dsimp only at h2
    rw [show (15 : Int) = ((15 : Nat) : Int) from rfl, h, ← h2, Bool.eq_iff_iff]
    simp only [beq_iff_eq]
    omega
  have HC := Lib.hid hc
  clear hc
  go_enter Tryd.func12, Tryd.ntmps12
  go_wp2_with fail
  go_ret
  rw [← HC.out]
  exact ⟨rfl, rfl⟩

theorem rightsBack_nat {w : World} (a : Nat) (ha : a < 256) (ht : Tab w) : Calls Tryd.prog 4 #[.int .u8 (a : Int)] w fun e w' => e = .returned (.bool true) ∧ Below w.heap.size w w' := by
  have HW := Lib.hid (Word_any a ha w ht)
  have HP := Lib.hid (fun w => Parse_any (wordA a) w)
  have HM := Lib.hid (fun w => May_any a ha w)
  have hp := parse_back ⟨a, ha⟩
  dsimp only at hp
  rw [hp] at HP
  clear hp
  by_cases h : a < 16
  · rw [if_pos h] at HP
    rw [decide_eq_true h] at HM
    go_enter Tryd.func4, Tryd.ntmps4
    go_wp2_with (first
      | (go_at_call 11; refine HW.out.mono ?_; rintro e w1 ⟨rfl, hbl⟩)
      | (go_at_call 9; refine (HP.out _).mono ?_; rintro e w2 ⟨rfl, rfl⟩)
      | (go_at_call 8; refine (begun_any _).mono ?_; rintro e w2 ⟨rfl, rfl⟩)
      | (go_at_call 12; refine (HM.out _).mono ?_; rintro e w2 ⟨rfl, rfl⟩))
    go_ret
    exact ⟨rfl, hbl⟩
  · rw [if_neg h] at HP
    rw [decide_eq_false h] at HM
    clear h
    go_enter Tryd.func4, Tryd.ntmps4
    go_wp2_with (first
      | (go_at_call 11; refine HW.out.mono ?_; rintro e w1 ⟨rfl, hbl⟩)
      | (go_at_call 9; refine (HP.out _).mono ?_; rintro e w2 ⟨rfl, rfl⟩)
      | (go_at_call 8; refine (begun_any _).mono ?_; rintro e w2 ⟨rfl, rfl⟩)
      | (go_at_call 12; refine (HM.out _).mono ?_; rintro e w2 ⟨rfl, rfl⟩))
    go_ret
    exact ⟨rfl, hbl⟩
theorem rightsBack_walk {w : World} (ht : Tab w) (a : Int) (a0 : 0 ≤ a) (a1 : a ≤ 255) : Calls Tryd.prog 4 #[.int .u8 a] w fun e w' => e = .returned (.bool true) ∧ Below w.heap.size w w' := by
  obtain ⟨x, rfl⟩ := Int.eq_ofNat_of_zero_le a0
  exact rightsBack_nat x (by omega) ht

end Go.Proofs.YtegdepimddlphaaDoor
