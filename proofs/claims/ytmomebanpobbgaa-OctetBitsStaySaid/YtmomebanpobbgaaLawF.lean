/-
  The laws of layer 1: OctetBitsStay, OctetBack.
-/
import Derived.Test.YtmomebanpobbgaaLawE
namespace Go.Proofs.Ytmomebanpobbgaa
open Go.RowKit

theorem bit_set' : ∀ x : Fin 256, ∀ j : Fin 8, ∀ on : Bool, ((setBitB (UInt8.ofNat x.1) j.1 on).toNat / 2 ^ j.1 % 2 == 1) = on := by decide +kernel
theorem bit_other' : ∀ x : Fin 256, ∀ i j : Fin 8, ∀ on : Bool, i ≠ j → ((setBitB (UInt8.ofNat x.1) i.1 on).toNat / 2 ^ j.1 % 2) = (UInt8.ofNat x.1).toNat / 2 ^ j.1 % 2 := by decide +kernel
theorem bit_set (x : UInt8) (j : Nat) (hj : j < 8) (on : Bool) : ((setBitB x j on).toNat / 2 ^ j % 2 == 1) = on := by
  have h := bit_set' ⟨x.toNat, x.toNat_lt⟩ ⟨j, hj⟩ on
  rwa [UInt8.ofNat_toNat] at h
theorem bit_other (x : UInt8) (i j : Nat) (hi : i < 8) (hj : j < 8) (on : Bool) (hne : i ≠ j) : (setBitB x i on).toNat / 2 ^ j % 2 = x.toNat / 2 ^ j % 2 := by
  have h := bit_other' ⟨x.toNat, x.toNat_lt⟩ ⟨i, hi⟩ ⟨j, hj⟩ on (by simpa using hne)
  rwa [UInt8.ofNat_toNat] at h

theorem set_len (l : List UInt8) (i : Int) (on : Bool) (hi : 0 ≤ i) (h : i / 8 < l.length) : (setBitR l i on).1.length = l.length ∧ (setBitR l i on).2 = 0 := by
  unfold setBitR
  rw [if_neg (by omega)]
  simp
theorem bit_of_set (l : List UInt8) (i : Int) (on : Bool) (hi : 0 ≤ i) (h : i / 8 < l.length) : bitR (setBitR l i on).1 i = (on, 0) := by
  have hl := (set_len l i on hi h).1
  unfold bitR
  rw [hl, if_neg (by omega)]
  unfold setBitR
  rw [if_neg (by omega)]
  have hm : (i / 8).toNat < l.length := by omega
  simp only [List.getD_eq_getElem?_getD, List.getElem?_set_self hm, Option.getD_some]
  rw [bit_set _ _ (by omega)]
theorem bit_of_set_ne (l : List UInt8) (i k : Int) (on : Bool) (hi : 0 ≤ i) (h : i / 8 < l.length) (hk : 0 ≤ k) (h2 : k / 8 < l.length) (hne : i ≠ k) : bitR (setBitR l i on).1 k = bitR l k := by
  have hl := (set_len l i on hi h).1
  unfold bitR
  rw [hl, if_neg (by omega), if_neg (by omega)]
  unfold setBitR
  rw [if_neg (by omega)]
  have hm : (i / 8).toNat < l.length := by omega
  simp only [List.getD_eq_getElem?_getD]
  by_cases he : (i / 8).toNat = (k / 8).toNat
  · rw [he, List.getElem?_set_self (by omega)]
    simp only [Option.getD_some]
    rw [bit_other _ (i % 8).toNat (k % 8).toNat (by omega) (by omega) on (by omega)]
  · rw [List.getElem?_set_ne he]
theorem bit_err (l : List UInt8) (k : Int) (hk : 0 ≤ k) (h2 : k / 8 < l.length) : (bitR l k).2 = 0 := by
  unfold bitR
  rw [if_neg (by omega)]

set_option maxHeartbeats 4000000 in
theorem octetBitsStay_walk {w : World} (A : Option Addr) (n c : Nat) (l : List UInt8) (h : Rd w 1 A n c (l.map b8)) (i : Int) (hi0 : -9223372036854775808 ≤ i) (hi1 : i ≤ 9223372036854775807) (k : Int) (hk0 : -9223372036854775808 ≤ k) (hk1 : k ≤ 9223372036854775807) (on : Bool) :
    Calls Try.prog 8 #[.slice A n c, .int .i64 i, .int .i64 k, .bool on] w fun e w' => e = .returned (.bool true) ∧ Below w.heap.size w w' := by
  have hln := h.lenb
  by_cases hb : (4096 : Int) < n ∨ i < 0 ∨ k < 0 ∨ (n : Int) ≤ i / 8 ∨ (n : Int) ≤ k / 8
  · have hb' : (4096 : Int) < n ∨ ((n : Int) ≤ 4096 ∧ i < 0) ∨ ((n : Int) ≤ 4096 ∧ 0 ≤ i ∧ k < 0) ∨ ((n : Int) ≤ 4096 ∧ 0 ≤ i ∧ 0 ≤ k ∧ (n : Int) ≤ i / 8) ∨ ((n : Int) ≤ 4096 ∧ 0 ≤ i ∧ 0 ≤ k ∧ i / 8 < n ∧ (n : Int) ≤ k / 8) := by omega
    clear hb
    rcases hb' with h1 | ⟨h1, h2⟩ | ⟨h1, h2, h3⟩ | ⟨h1, h2, h3, h4⟩ | ⟨h1, h2, h3, h4, h5⟩
    all_goals
      go_enter Try.func8, Try.ntmps8
      go_wp2_with (go_at_call 12; refine (begun_any _).mono ?_; rintro e w1 ⟨rfl, hbl1⟩)
      go_ret
      exact ⟨rfl, hbl1⟩
  · have h1 : (n : Int) ≤ 4096 := by omega
    have h2 : 0 ≤ i := by omega
    have h3 : 0 ≤ k := by omega
    have h4 : i / 8 < n := by omega
    have h5 : k / 8 < n := by omega
    obtain ⟨el, e0⟩ := set_len l i on h2 (by omega)
    have e1 := bit_of_set l i on h2 (by omega)
    have e2 := bit_of_set_ne l i k on h2 (by omega) h3 (by omega)
    have e3 := bit_err l k h3 (by omega)
    obtain ⟨L, hL⟩ : ∃ L, (setBitR l i on).1 = L := ⟨_, rfl⟩
    rw [hL] at el e1 e2
    have e4 := bit_err L k h3 (by omega)
    have EL := Lib.hid hL
    have E0 := Lib.hid e0
    have El := Lib.hid el
    have E1 := Lib.hid e1
    have E3 := Lib.hid e3
    have E4 := Lib.hid e4
    have E2 := Lib.hid e2
    clear hb hL e0 el e1 e3 e4 e2 hln
    have hlen : L.length = l.length := El.out
    have hln := Lib.hid h.lenb
    clear hlen
    obtain ⟨y, hy⟩ : ∃ y, (bitR L k).1 = y := ⟨_, rfl⟩
    obtain ⟨z, hz⟩ : ∃ z, (bitR l k).1 = z := ⟨_, rfl⟩
    have Y := Lib.hid hy
    have Z := Lib.hid hz
    clear hy hz
    have hyz : i = k ∨ ((i == k) = false ∧ y = z) := by
      by_cases hik : i = k
      · exact .inl hik
      · exact .inr ⟨by simpa using hik, by rw [← Y.out, ← Z.out, E2.out hik]⟩
    rcases hyz with hik | ⟨hik, hyz⟩
    · subst hik
      go_enter Try.func8, Try.ntmps8
      go_wp2_with (first
        | (go_at_call 12; refine (begun_any _).mono ?_; rintro e w1 ⟨rfl, hbl1⟩)
        | (go_at_call 29; refine (SetBit_any A n c l i on _ (h.below hbl1) (by omega) hi1 hi0).mono ?_; rintro e w2 ⟨A1, n1, c1, rfl, ho1, hbl2⟩; rw [EL.out] at ho1; rw [E0.out]; obtain rfl : n1 = n := by (have := ho1.lenb; have := El.out; have := hln.out; omega))
        | (go_at_call_of 27 (Value.slice A1 n1 c1); refine (Bit_any A1 n1 c1 L i _ ho1.rd (by omega) hi1 hi0).mono ?_; rintro e w3 ⟨rfl, rfl⟩; rw [E1.out])
        | (go_at_call_of 27 (Value.slice A n1 c); refine (Bit_any A n1 c l i _ ((h.below hbl1).below hbl2) (by omega) hi1 hi0).mono ?_; rintro e w3 ⟨rfl, rfl⟩; rw [E3.out]))
      go_ret
      exact ⟨rfl, hbl1.trans (hbl2.mono hbl1.size)⟩
    · subst hyz
      go_enter Try.func8, Try.ntmps8
      go_wp2_with (first
        | (go_at_call 12; refine (begun_any _).mono ?_; rintro e w1 ⟨rfl, hbl1⟩)
        | (go_at_call 29; refine (SetBit_any A n c l i on _ (h.below hbl1) (by omega) hi1 hi0).mono ?_; rintro e w2 ⟨A1, n1, c1, rfl, ho1, hbl2⟩; rw [EL.out] at ho1; rw [E0.out]; obtain rfl : n1 = n := by (have := ho1.lenb; have := El.out; have := hln.out; omega))
        | (go_at_call_of 27 (Value.int IntKind.i64 i); refine (Bit_any A1 n1 c1 L i _ ho1.rd (by omega) hi1 hi0).mono ?_; rintro e w3 ⟨rfl, rfl⟩; rw [E1.out])
        | (go_at_call_of 27 (Value.slice A1 n1 c1); refine (Bit_any A1 n1 c1 L k _ ho1.rd (by omega) hk1 hk0).mono ?_; rintro e w3 ⟨rfl, rfl⟩; rw [E4.out, Y.out])
        | (go_at_call_of 27 (Value.slice A n1 c); refine (Bit_any A n1 c l k _ ((h.below hbl1).below hbl2) (by omega) hk1 hk0).mono ?_; rintro e w3 ⟨rfl, rfl⟩; rw [E3.out, Z.out]))
      go_ret
      exact ⟨rfl, hbl1.trans (hbl2.mono hbl1.size)⟩

end Go.Proofs.Ytmomebanpobbgaa
