/-
  The law OctetBack.
-/
import Derived.Test.YtmomebanpobbgaaLawF
namespace Go.Proofs.Ytmomebanpobbgaa
open Go.RowKit

theorem back8 (v : Int) (r : List UInt8) (h0 : 0 ≤ v) (h1 : v ≤ 18446744073709551615) : atR (putB v.toNat 8 ++ r) 0 8 = (v, 0) := by
  have h8 : (256 : Nat) ^ 8 = 18446744073709551616 := by decide
  unfold atR
  rw [if_neg (by omega), List.length_append, putB_length, if_neg (by omega)]
  have e : (8 : Int).toNat = (putB v.toNat 8).length := by rw [putB_length]; rfl
  have e0 : (0 : Int).toNat = 0 := rfl
  rw [e0, List.drop_zero, e, List.take_left, beN_putB, h8, Nat.mod_eq_of_lt (by omega)]
  simp only [Int.toNat_of_nonneg h0]
theorem back_text (s r : List UInt8) (h : s.length ≤ 65536) : ttR ((countB s.length ++ s) ++ r) = (s, (countB s.length ++ s).length, 0) := by
  unfold ttR
  rw [List.append_assoc, tcR_countB _ _ (by omega)]
  dsimp only
  rw [if_neg (by omega), if_neg (by omega), if_neg (by rw [List.length_append, List.length_append]; omega), List.drop_left, List.take_left, List.length_append]
theorem zag_zig (z : Int) : zagI (zigI z) = z := by
  unfold zagI zigI
  by_cases h : z < 0
  · rw [if_pos h, if_pos (by omega)]; omega
  · rw [if_neg h, if_neg (by omega)]; omega
theorem zig_zag (v : Int) (h : 0 ≤ v) : zigI (zagI v) = v := by
  unfold zagI zigI
  by_cases h2 : v % 2 = 1
  · rw [if_pos h2, if_pos (by omega)]; omega
  · rw [if_neg h2, if_neg (by omega)]; omega
theorem zig_range (z : Int) (h0 : -9223372036854775808 ≤ z) (h1 : z ≤ 9223372036854775807) : 0 ≤ zigI z ∧ zigI z ≤ 18446744073709551615 := by
  unfold zigI
  split <;> omega
theorem zag_range (v : Int) (h0 : 0 ≤ v) (h1 : v ≤ 18446744073709551615) : -9223372036854775808 ≤ zagI v ∧ zagI v ≤ 9223372036854775807 := by
  unfold zagI
  split <;> omega
theorem count_ten (v : Nat) (h : v ≤ 18446744073709551615) : (countB v).length ≤ 10 := by
  have e : (128 : Nat) ^ (9 + 1) = 1180591620717411303424 := by decide
  exact countB_length 9 v (by omega)
theorem text_nil (s : List UInt8) (h : s.length ≤ 65536) : textR [] s = (countB s.length ++ s, 0) := by
  unfold textR
  rw [if_neg (by omega), List.nil_append]

set_option maxHeartbeats 8000000 in
theorem octetBack_walk {w : World} (A : Option Addr) (n c : Nat) (s : List UInt8) (h : Rd w 1 A n c (s.map b8)) (A2 : Option Addr) (m c2 : Nat) (r : List UInt8) (h2 : Rd w 1 A2 m c2 (r.map b8)) (v : Int) (hv0 : 0 ≤ v) (hv1 : v ≤ 18446744073709551615) (z : Int) (hz0 : -9223372036854775808 ≤ z) (hz1 : z ≤ 9223372036854775807) :
    Calls Try.prog 10 #[.slice A n c, .slice A2 m c2, .int .u64 v, .int .i64 z] w fun e w' => e = .returned (.bool true) ∧ Below w.heap.size w w' := by
  have hln := h.lenb
  have hln2 := h2.lenb
  by_cases hb : (65536 : Int) < n ∨ (65536 : Int) < m
  · have hb' : (65536 : Int) < n ∨ ((n : Int) ≤ 65536 ∧ (65536 : Int) < m) := by omega
    clear hb
    rcases hb' with h1 | ⟨h1, h2⟩
    all_goals
      go_enter Try.func10, Try.ntmps10
      go_wp2_with (go_at_call 12; refine (begun_any _).mono ?_; rintro e w1 ⟨rfl, hbl1⟩)
      go_ret
      exact ⟨rfl, hbl1⟩
  have b1 : (n : Int) ≤ 65536 := by omega
  have b2 : (m : Int) ≤ 65536 := by omega
  have eT := tcR_countB v.toNat r (by omega)
  have eC : (countB v.toNat).length ≤ 10 := count_ten _ (by omega)
  have eD : (countB s.length).length ≤ 10 := count_ten _ (by omega)
  have eX := text_nil s (by omega)
  have eY := back_text s r (by omega)
  have eDl : (countB s.length ++ s).length ≤ 65546 := by rw [List.length_append]; omega
  obtain ⟨C, hC⟩ : ∃ C, countB v.toNat = C := ⟨_, rfl⟩
  obtain ⟨D, hD⟩ : ∃ D, countB s.length ++ s = D := ⟨_, rfl⟩
  rw [hC] at eT eC
  rw [hD] at eX eY eDl
  have eV : ((v.toNat : Nat) : Int) = v := by omega
  have HC := Lib.hid hC
  have ET := Lib.hid eT
  have EX := Lib.hid eX
  have EY := Lib.hid eY
  have EV := Lib.hid eV
  have EZ := Lib.hid (zag_zig z)
  have EW := Lib.hid (zig_zag v hv0)
  have E8 := Lib.hid (back8 v r hv0 hv1)
  have RZ := Lib.hid (zig_range z hz0 hz1)
  have RV := Lib.hid (zag_range v hv0 hv1)
  clear hC hD eT eX eY eV hb eD hln hln2
  go_enter Try.func10, Try.ntmps10
  go_wp2_with (first
    | (go_at_call 12; refine (begun_any _).mono ?_; rintro e w1 ⟨rfl, hbl1⟩)
    | (go_at_call 11; refine (put8_any v _ hv0 hv1).mono ?_; rintro e w2 ⟨A3, c3, rfl, ho1, hbl2⟩; have hB2 := hbl1.trans (hbl2.mono hbl1.size))
    | (at_builtin; refine wpList_app rfl _ _ rfl eb ho1 rfl (h2.below hB2) rfl (b8_one _) (by omega) (by unfold maxLen; omega) hbl2.size ?_; intro A4 c4 w3 ho3 hg3 hq3; have hB3 := below_own hB2 hg3 (fun g hg => Nat.le_trans hbl1.size (ho1.lt g hg).1) hB2.size; rw [← List.map_append] at ho3)
    | (go_at_call 31; refine (At_any A4 (8 + m) c4 _ 0 8 _ ho3.rd (by omega) (by omega)).mono ?_; rintro e w4 ⟨rfl, rfl⟩; rw [E8.out])
    | (go_at_call 13; refine (Count_any none 0 0 [] v _ (Rd.nil_ _ 1) (by omega) hv0 hv1).mono ?_; rintro e w5 ⟨A5, n5, c5, rfl, ho5, hbl5⟩; rw [List.nil_append, HC.out] at ho5; have hB5 := hB3.trans (hbl5.mono hB3.size); obtain rfl : C.length = n5 := ho5.lenb)
    | (at_builtin; refine wpList_app rfl _ _ rfl eb ho5 rfl (h2.below hB5) rfl (b8_one _) (by omega) (by unfold maxLen; omega) hbl5.size ?_; intro A6 c6 w6 ho6 hg6 hq6; have hB6 := below_own hB5 hg6 (fun g hg => Nat.le_trans hB3.size (ho5.lt g hg).1) hB5.size; rw [← List.map_append] at ho6)
    | (go_at_call 33; refine (TakeCount_any A6 (C.length + m) c6 _ _ ho6.rd (by omega)).mono ?_; rintro e w7 ⟨rfl, rfl⟩; rw [ET.out]; simp only [EV.out])
    | (go_at_call 22; refine (Text_any none 0 0 [] A n c s _ (Rd.nil_ _ 1) (h.below hB6) (by omega) (by omega)).mono ?_; rintro e w8 ⟨A8, n8, c8, rfl, ho8, hbl8⟩; rw [EX.out] at ho8; rw [EX.out]; have hB8 := hB6.trans (hbl8.mono hB6.size); obtain rfl : D.length = n8 := ho8.lenb)
    | (at_builtin; refine wpList_app rfl _ _ rfl eb ho8 rfl (h2.below hB8) rfl (b8_one _) (by omega) (by unfold maxLen; omega) hbl8.size ?_; intro A9 c9 w9 ho9 hg9 hq9; have hB9 := below_own hB8 hg9 (fun g hg => Nat.le_trans hB6.size (ho8.lt g hg).1) hB8.size; rw [← List.map_append] at ho9)
    | (go_at_call 35; refine (TakeText_any A9 (D.length + m) c9 _ _ ho9.rd (by omega)).mono ?_; rintro e wa ⟨Aa, na, ca, rfl, hoa, hbla⟩; rw [EY.out] at hoa; rw [EY.out]; have hBa := hB9.trans (hbla.mono hB9.size); have hsa := str_rd hoa.rd; have hsb := str_rd (h.below hBa))
    | (go_at_call_of 14 (Value.int IntKind.i64 z); refine (Zig_any z _ hz0 hz1).mono ?_; rintro e wb ⟨rfl, rfl⟩)
    | (go_at_call_of 16 (Value.int IntKind.u64 (zigI z)); refine (Zag_any (zigI z) _ RZ.out.1 RZ.out.2).mono ?_; rintro e wb ⟨rfl, rfl⟩; rw [EZ.out])
    | (go_at_call_of 16 (Value.int IntKind.u64 v); refine (Zag_any v _ hv0 hv1).mono ?_; rintro e wb ⟨rfl, rfl⟩)
    | (go_at_call_of 14 (Value.int IntKind.i64 (zagI v)); refine (Zig_any (zagI v) _ RV.out.1 RV.out.2).mono ?_; rintro e wb ⟨rfl, rfl⟩; rw [EW.out]))
  go_ret
  exact ⟨rfl, hBa⟩

end Go.Proofs.Ytmomebanpobbgaa
