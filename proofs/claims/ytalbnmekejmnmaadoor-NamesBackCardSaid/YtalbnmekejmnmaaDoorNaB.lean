/-
  Package names: digits and hexadecimal text.
-/
import Derived.Test.YtalbnmekejmnmaaDoorNaA
import Derived.Test.YtalbnmekejmnmaaDoorLawA
namespace Go.Proofs.YtalbnmekejmnmaaDoor
open Go.RowKit

def dg (d : Nat) : UInt8 := UInt8.ofNat (if d < 10 then 48 + d else 87 + d)
theorem b8_dg_lo (d : Nat) (h : d < 10) : b8 (dg d) = .int .u8 (48 + (d : Int)) := by
  unfold dg b8
  rw [if_pos h, UInt8.toNat_ofNat']
  congr 1
  omega
theorem b8_dg_hi (d : Nat) (h : 10 ≤ d) (h2 : d < 16) : b8 (dg d) = .int .u8 (97 + (d : Int) - 10) := by
  unfold dg b8
  rw [if_neg (by omega), UInt8.toNat_ofNat']
  congr 1
  omega
def dgI (d : Nat) : Int := (dg d).toNat
theorem b8_dgI (d : Nat) : b8 (dg d) = .int .u8 (dgI d) := rfl
theorem digit_any (d : Nat) (hd : d < 16) (w : World) : Calls Tryd.prog 24 #[.int .u8 (d : Int)] w fun e w' => e = .returned (.int .u8 (dgI d)) ∧ w = w' := by
  by_cases h : d < 10
  · have HB := Lib.hid (b8_dg_lo d h)
    have h' : (d : Int) ≤ 9 := by omega
    clear hd h
    go_enter Tryd.func24, Tryd.ntmps24
    go_wp2_with fail
    go_ret
    rw [← b8_dgI, HB.out]
    exact ⟨rfl, rfl⟩
  · have HB := Lib.hid (b8_dg_hi d (by omega) hd)
    have h' : (10 : Int) ≤ d := by omega
    have h2 : (d : Int) ≤ 15 := by omega
    clear hd h
    go_enter Tryd.func24, Tryd.ntmps24
    go_wp2_with fail
    go_ret
    rw [← b8_dgI, HB.out]
    exact ⟨rfl, rfl⟩

def hexB (x : UInt8) : List UInt8 := [dg (x.toNat / 16), dg (x.toNat % 16)]
def hexL : List UInt8 → List UInt8
  | [] => []
  | x :: l => hexB x ++ hexL l
theorem hexL_length (l : List UInt8) : (hexL l).length = 2 * l.length := by
  induction l with
  | nil => rfl
  | cons x l ih => simp [hexL, hexB, ih]; omega
theorem hexL_append (l m : List UInt8) : hexL (l ++ m) = hexL l ++ hexL m := by
  induction l with
  | nil => rfl
  | cons x l ih => simp [hexL, ih]
theorem hexL_take (l : List UInt8) (k : Nat) (h : k < l.length) : hexL (l.take (k + 1)) = hexL (l.take k) ++ hexB l[k] := by
  rw [List.take_succ_eq_append_getElem h, hexL_append]
  simp [hexL]
theorem u8_and15 : ∀ x : UInt8, bits .and .u8 (x.toNat : Int) 15 = ((x.toNat % 16 : Nat) : Int) := by
  intro x
  have h : ∀ a : Fin 256, bits .and .u8 (a.1 : Int) 15 = ((a.1 % 16 : Nat) : Int) := by decide +kernel
  exact h ⟨x.toNat, x.toNat_lt⟩

set_option maxRecDepth 20000 in
set_option maxHeartbeats 800000 in
theorem Hex_any (A : Option Addr) (n c : Nat) (l : List UInt8) (w : World) (h : Rd w 1 A n c (l.map b8)) (hn : n ≤ 1073741824) :
    Calls Tryd.prog 12 #[.slice A n c] w fun e w' => e = .returned (.string ⟨(hexL l).toArray⟩) ∧ Below w.heap.size w w' := by
  have hln := h.lenb
  go_enter Tryd.func12, Tryd.ntmps12
  go_wp2_with (at_make
               refine wpList_mk rfl _ _ rfl eb rfl rfl 0 (2 * n) (by omega) (by omega) (by omega) (by omega) (by unfold maxLen; omega) (Nat.le_refl _) ?_
               intro w1 ho1 hg1 hz1)
  clear hz1
  go_loopw [3, 12] (fun s i wr => ∃ (k n' : Nat) (A' : Option Addr) (c' : Nat), k ≤ n ∧ i = .int .i64 k ∧ s = .slice A' n' c' ∧ Own wr w.heap.size 5 1 A' n' c' ((hexL (l.take k)).map b8) ∧ Below w.heap.size w wr) (fun _ i _ => n - (intOf i).toNat)
  case atStart => exact ⟨0, 0, _, _, by omega, rfl, rfl, by simpa [madeCells, hexL] using ho1, (Below.refl _ _).grown hg1 (Nat.le_refl _) (by simp)⟩
  case round =>
    obtain ⟨k, n', A', c', hk, rfl, rfl, ho, hb⟩ := hrel
    by_cases hkn : k < n
    · have hn' := ho.lenb
      rw [hexL_length, List.length_take] at hn'
      have hB := hb.size
      have hr := h.below hb
      have hidx := run_index_rd (P := Tryd.prog) (A := A) (n := n) (c := c) eb h.nil h.le k hkn
      rw [Nat.mul_one] at hidx
      have hce := hr.cell k (b8 (l[k]'(by omega))) (by rw [List.getElem?_map, List.getElem?_eq_getElem (by omega)]; rfl)
      have hstep := hexL_take l k (by omega)
      generalize l[k]'(by omega) = x at hce hstep
      have hx := x.toNat_lt
      have a1 := u8_and15 x
      have a2 : (x.toNat : Int) / 16 = ((x.toNat / 16 : Nat) : Int) := by omega
      unfold hexB at hstep
      obtain ⟨p, hp⟩ : ∃ p, x.toNat / 16 = p := ⟨_, rfl⟩
      obtain ⟨q, hq⟩ : ∃ q, x.toNat % 16 = q := ⟨_, rfl⟩
      have hp16 : p < 16 := by omega
      have hq16 : q < 16 := by omega
      rw [hp, hq] at hstep
      rw [hq] at a1
      rw [hp] at a2
      have D1 := Lib.hid (digit_any p hp16)
      have D2 := Lib.hid (digit_any q hq16)
      have HS := Lib.hid hstep
      unfold b8 at hce
      clear hstep hp hq hp16 hq16
      have hx' : (x.toNat : Int) ≤ 255 := by omega
      clear hx
      generalize (x.toNat : Int) = X at hce a1 a2 hx'
      go_wp2_with fail
      refine (D1.out _).mono ?_
      rintro e w9 ⟨rfl, rfl⟩
      go_wp2_with fail
      refine (D2.out _).mono ?_
      rintro e w9 ⟨rfl, rfl⟩
      go_wp2_with (at_builtin; refine wpList_app rfl _ _ rfl eb (ho.alloc _) rfl (Rd.lit _ [_, _] _ 2 rfl (by decide)) rfl (by simp [Value.oneCell']) (by omega) (by unfold maxLen; omega) (by simp; omega) ?_; intro A2 c2 w2 ho2 hg2 hb2)
      go_roundw
      case rel =>
        refine ⟨k + 1, _, A2, c2, by omega, by go_num, rfl, ?_, ?_⟩
        · rw [HS.out]
          simpa [b8_dgI] using ho2
        · exact (hb.alloc hB _).grown hg2 (by simp; omega) (by intro g hg; exact (ho.lt g hg).1)
      case measure => simp [intOf]; omega
    · have e : k = n := by omega
      subst e
      rw [List.take_of_length_le (by omega)] at ho
      have hs := str_rd ho.rd
      go_wp2_with fail
      go_ret
      exact ⟨rfl, hb⟩

end Go.Proofs.YtalbnmekejmnmaaDoor
