/-
  The laws of layer 1: OctetBits, OctetReads.
-/
import Derived.Test.YtmomebanpobbgaaLawD
import Derived.Test.YtmomebanpobbgaaRefE
namespace Go.Proofs.Ytmomebanpobbgaa
open Go.RowKit

set_option maxHeartbeats 4000000 in
theorem octetBits_walk {w : World} (A : Option Addr) (n c : Nat) (l : List UInt8) (h : Rd w 1 A n c (l.map b8)) (k : Int) (hk0 : -9223372036854775808 ≤ k) (hk1 : k ≤ 9223372036854775807) (on : Bool) :
    Calls Try.prog 7 #[.slice A n c, .int .i64 k, .bool on] w fun e w' => e = .returned (.bool true) ∧ Below w.heap.size w w' := by
  have hln := h.lenb
  by_cases hb1 : (65536 : Int) < n
  · go_enter Try.func7, Try.ntmps7
    go_wp2_with (go_at_call 12; refine (begun_any _).mono ?_; rintro e w1 ⟨rfl, hbl1⟩)
    go_ret
    exact ⟨rfl, hbl1⟩
  go_enter Try.func7, Try.ntmps7
  go_wp2_with fail
  refine (begun_any _).mono ?_
  rintro e w1 ⟨rfl, hbl1⟩
  go_wp2_with fail
  refine (Twin_any A n c l _ (h.below hbl1) (by omega)).mono ?_
  rintro e w3 ⟨At, rfl, hot, hbl2⟩
  have hbw : Below w.heap.size w w3 := hbl1.trans (hbl2.mono hbl1.size)
  have ht3 := hot.rd
  have hb3 := h.below hbw
  clear hot hbl1 hbl2
  go_wp2_with fail
  go_loopw [8] (fun i wr => ∃ j : Nat, j ≤ 2 ∧ i = .int .i64 j ∧ Below w3.heap.size w3 wr) (fun i _ => 2 - (intOf i).toNat)
  case atStart => exact ⟨0, by omega, rfl, Below.refl _ _⟩
  case round =>
    obtain ⟨j, hj, rfl, hbr⟩ := hrel
    by_cases hjn : j < 2
    · have htr := ht3.below hbr
      have hbr1 := hb3.below hbr
      go_wp2_with fail
      refine (Bit_any At n _ l k _ (twin_front htr hln) (by omega) hk1 hk0).mono ?_
      rintro e w4 ⟨rfl, rfl⟩
      go_wp2_with fail
      refine (RBit_any A n c l k _ hbr1 (by omega) hk1 hk0).mono ?_
      rintro e w5 ⟨rfl, rfl⟩
      go_wp2_with fail
      refine (SetBit_any At n _ l k on _ (twin_front htr hln) (by omega) hk1 hk0).mono ?_
      rintro e w6 ⟨Ax, nx, cx, rfl, hox, hbl6⟩
      go_wp2_with fail
      refine (RSetBit_any A n c l k on _ (hbr1.below hbl6) (by omega) hk1 hk0).mono ?_
      rintro e w8 ⟨Ay, ny, cy, rfl, hoy, hbl8⟩
      have hb08 := hbl6.trans (hbl8.mono hbl6.size)
      have hx8 := hox.below hbl8
      have hsx := str_rd hx8.rd
      have hsy := str_rd hoy.rd
      go_wp2_with fail
      refine (Kept_true At n A c l _ (htr.below hb08) (hbr1.below hb08) (by omega)).mono ?_
      rintro e w10 ⟨rfl, rfl⟩
      have hx9 := hx8
      have hb39 := hbr.trans (hb08.mono hbr.size)
      have e3 : w3.heap.size ≤ wr.heap.size := hbr.size
      clear hsx hsy hx8 hoy hox htr hbr1 hbl6 hbl8 hb08
      go_wp2_with fail
      refine (Spoil_any wr.heap.size Ax nx cx _ _ hx9).mono ?_
      rintro e wa ⟨rfl, hga, hza⟩
      have hbC := below_own hb39 hga (fun g hg => Nat.le_trans e3 (hx9.lt g hg).1) hb39.size
      clear hza hga hx9 e3 hb39
      set_option maxRecDepth 20000 in go_wp2_with fail
      go_roundw
      case rel => exact ⟨j + 1, by omega, by go_num, hbC⟩
      case measure => simp [intOf]; omega
    · have e : j = 2 := by omega
      subst e
      go_wp2_with fail
      go_ret
      exact ⟨rfl, hbw.trans (hbr.mono hbw.size)⟩

set_option maxHeartbeats 4000000 in
theorem octetReads_walk {w : World} (A : Option Addr) (n c : Nat) (l : List UInt8) (h : Rd w 1 A n c (l.map b8)) (p : Int) (hp0 : -9223372036854775808 ≤ p) (hp1 : p ≤ 9223372036854775807) (k : Int) (hk0 : -9223372036854775808 ≤ k) (hk1 : k ≤ 9223372036854775807) :
    Calls Try.prog 9 #[.slice A n c, .int .i64 p, .int .i64 k] w fun e w' => e = .returned (.bool true) ∧ Below w.heap.size w w' := by
  have hln := h.lenb
  by_cases hb1 : (131072 : Int) < n
  · go_enter Try.func9, Try.ntmps9
    go_wp2_with (go_at_call 12; refine (begun_any _).mono ?_; rintro e w1 ⟨rfl, hbl1⟩)
    go_ret
    exact ⟨rfl, hbl1⟩
  go_enter Try.func9, Try.ntmps9
  go_wp2_with fail
  refine (begun_any _).mono ?_
  rintro e w1 ⟨rfl, hbl1⟩
  go_wp2_with fail
  refine (Twin_any A n c l _ (h.below hbl1) (by omega)).mono ?_
  rintro e w3 ⟨At, rfl, hot, hbl2⟩
  have hbw : Below w.heap.size w w3 := hbl1.trans (hbl2.mono hbl1.size)
  have ht3 := hot.rd
  have hb3 := h.below hbw
  clear hot hbl1 hbl2
  go_wp2_with fail
  go_loopw [8] (fun i wr => ∃ j : Nat, j ≤ 2 ∧ i = .int .i64 j ∧ Below w3.heap.size w3 wr) (fun i _ => 2 - (intOf i).toNat)
  case atStart => exact ⟨0, by omega, rfl, Below.refl _ _⟩
  case round =>
    obtain ⟨j, hj, rfl, hbr⟩ := hrel
    by_cases hjn : j < 2
    · have htr := ht3.below hbr
      have hbr1 := hb3.below hbr
      go_wp2_with fail
      refine (At_any At n _ l p k _ (twin_front htr hln) (by omega) hp1).mono ?_
      rintro e w4 ⟨rfl, rfl⟩
      go_wp2_with fail
      refine (RAt_any A n c l p k _ hbr1 (by omega) hp1).mono ?_
      rintro e w5 ⟨rfl, rfl⟩
      go_wp2_with fail
      refine (TakeCount_any At n _ l _ (twin_front htr hln) (by omega)).mono ?_
      rintro e w5 ⟨rfl, rfl⟩
      go_wp2_with fail
      refine (RTakeCount_any A n c l _ hbr1 (by omega)).mono ?_
      rintro e w5 ⟨rfl, rfl⟩
      go_wp2_with fail
      refine (TakeText_any At n _ l _ (twin_front htr hln) (by omega)).mono ?_
      rintro e w6 ⟨Ax, nx, cx, rfl, hox, hbl6⟩
      go_wp2_with fail
      refine (RTakeText_any A n c l _ (hbr1.below hbl6) (by omega)).mono ?_
      rintro e w8 ⟨Ay, ny, cy, rfl, hoy, hbl8⟩
      have hb08 := hbl6.trans (hbl8.mono hbl6.size)
      have hx8 := hox.below hbl8
      have hsx := str_rd hx8.rd
      have hsy := str_rd hoy.rd
      go_wp2_with fail
      refine (Kept_true At n A c l _ (htr.below hb08) (hbr1.below hb08) (by omega)).mono ?_
      rintro e w10 ⟨rfl, rfl⟩
      have hx9 := hx8
      have hb39 := hbr.trans (hb08.mono hbr.size)
      have e3 : w3.heap.size ≤ wr.heap.size := hbr.size
      clear hsx hsy hx8 hoy hox htr hbr1 hbl6 hbl8 hb08
      go_wp2_with fail
      refine (Spoil_any wr.heap.size Ax nx cx _ _ hx9).mono ?_
      rintro e wa ⟨rfl, hga, hza⟩
      have hbC := below_own hb39 hga (fun g hg => Nat.le_trans e3 (hx9.lt g hg).1) hb39.size
      clear hza hga hx9 e3 hb39
      set_option maxRecDepth 20000 in go_wp2_with fail
      go_roundw
      case rel => exact ⟨j + 1, by omega, by go_num, hbC⟩
      case measure => simp [intOf]; omega
    · have e : j = 2 := by omega
      subst e
      go_wp2_with fail
      go_ret
      exact ⟨rfl, hbw.trans (hbr.mono hbw.size)⟩

end Go.Proofs.Ytmomebanpobbgaa
