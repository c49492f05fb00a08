/-
  The laws of layer 1: begun, and each law's walk.
-/
import Derived.Test.YtmomebanpobbgaaRefD
import Derived.Test.YtmomebanpobbgaaLawA
namespace Go.Proofs.Ytmomebanpobbgaa
open Go.RowKit

theorem lit_rd (w : World) (l : List UInt8) (vs : List Value) (n : Nat) (hv : vs = l.map b8) (hn : vs.length = n) (hm : n ≤ maxLen) : Rd (w.alloc (.cells vs.toArray 5)) 1 (some ⟨w.heap.size, 0, none⟩) n n (l.map b8) := by
  subst hv
  exact Rd.lit w _ _ n hn hm

theorem put_begun (w : World) : Calls Try.prog 11 #[.slice (some ⟨w.heap.size, 0, none⟩) 1 1, .int .u64 258, .int .i64 2] (w.alloc (.cells #[.int .u8 9] 5)) fun e w' =>
    ∃ A' c', e = .returned (.tuple #[.slice A' 3 c', .int .i64 0]) ∧ Own w' w.heap.size 5 1 A' 3 c' (([9, 1, 2] : List UInt8).map b8) ∧ Below w.heap.size w w' := by
  refine (Put_any _ 1 1 [9] 258 2 _ (lit_rd w [9] _ 1 rfl rfl (by decide)) (by omega) (by omega) (by omega)).mono ?_
  rintro e w1 ⟨A1, n1, c1, rfl, ho1, hb1⟩
  have e1 : putR [9] 258 2 = ([9, 1, 2], 0) := by decide
  rw [e1] at ho1 ⊢
  have := ho1.lenb
  obtain rfl : n1 = 3 := by simpa using this.symm
  exact ⟨A1, c1, rfl, ho1.mono (by simp), ((Below.refl _ _).alloc (Nat.le_refl _) _).trans (hb1.mono (by simp))⟩
theorem at_begun (w : World) : Calls Try.prog 31 #[.slice (some ⟨w.heap.size, 0, none⟩) 3 3, .int .i64 1, .int .i64 2] (w.alloc (.cells #[.int .u8 1, .int .u8 2, .int .u8 3] 5)) fun e w' =>
    e = .returned (.tuple #[.int .u64 515, .int .i64 0]) ∧ w.alloc (.cells #[.int .u8 1, .int .u8 2, .int .u8 3] 5) = w' := by
  refine (At_any _ 3 3 [1, 2, 3] 1 2 _ (lit_rd w [1, 2, 3] _ 3 rfl rfl (by decide)) (by omega) (by omega)).mono ?_
  rintro e w2 ⟨rfl, rfl⟩
  have e1 : atR [1, 2, 3] 1 2 = (515, 0) := by decide
  rw [e1]
  exact ⟨rfl, rfl⟩
theorem zig_begun (w : World) : Calls Try.prog 14 #[.int .i64 (-1)] w fun e w' => e = .returned (.int .u64 1) ∧ w = w' := Zig_any (-1) w (by omega) (by omega)

theorem begun_any (w : World) : Calls Try.prog 12 #[] w fun e w' => e = .returned (.bool true) ∧ Below w.heap.size w w' := by
  go_enter Try.func12, Try.ntmps12
  go_wp2_with (first
    | (go_at_call 11; refine (put_begun _).mono ?_; rintro e w1 ⟨A1, c1, rfl, ho1, hb1⟩; have hs := fun ob => str_rd (ho1.alloc ob).rd)
    | (go_at_call 31; refine (at_begun _).mono ?_; rintro e w2 ⟨rfl, rfl⟩)
    | (go_at_call 14; refine (zig_begun _).mono ?_; rintro e w3 ⟨rfl, rfl⟩))
  go_ret
  exact ⟨rfl, hb1.alloc hb1.size _⟩

/-! ### OctetTurns -/
theorem octetTurns_walk (v : Int) (hv0 : -9223372036854775808 ≤ v) (hv1 : v ≤ 9223372036854775807) (u : Int) (hu0 : 0 ≤ u) (hu1 : u ≤ 18446744073709551615) (n : Int) (hn0 : -9223372036854775808 ≤ n) (hn1 : n ≤ 9223372036854775807) (w : World) :
    Calls Try.prog 5 #[.int .i64 v, .int .u64 u, .int .i64 n] w fun e w' => e = .returned (.bool true) ∧ Below w.heap.size w w' := by
  go_enter Try.func5, Try.ntmps5
  go_wp2_with (first
    | (go_at_call 12; refine (begun_any _).mono ?_; rintro e w1 ⟨rfl, hb1⟩)
    | (go_at_call 14; refine (Zig_any v _ hv0 hv1).mono ?_; rintro e w2 ⟨rfl, rfl⟩)
    | (go_at_call 15; refine (RZig_any v _ hv0 hv1).mono ?_; rintro e w2 ⟨rfl, rfl⟩)
    | (go_at_call 16; refine (Zag_any u _ hu0 hu1).mono ?_; rintro e w2 ⟨rfl, rfl⟩)
    | (go_at_call 17; refine (RZag_any u _ hu0 hu1).mono ?_; rintro e w2 ⟨rfl, rfl⟩)
    | (go_at_call 18; refine (Wrap_any u n _ hu0 hu1 hn0 hn1).mono ?_; rintro e w2 ⟨rfl, rfl⟩)
    | (go_at_call 19; refine (RWrap_any u n _ hu0 hu1 hn0 hn1).mono ?_; rintro e w2 ⟨rfl, rfl⟩))
  go_ret
  exact ⟨rfl, hb1⟩

end Go.Proofs.Ytmomebanpobbgaa
