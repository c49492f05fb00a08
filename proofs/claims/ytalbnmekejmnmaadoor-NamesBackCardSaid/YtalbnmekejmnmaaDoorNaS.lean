/-
  Package names: the document's Hex.
-/
import Derived.Test.YtalbnmekejmnmaaDoorNaB
import Derived.Test.YtalbnmekejmnmaaDoorMixC
import Derived.IntWalk
namespace Go.Proofs.YtalbnmekejmnmaaDoor
open Go.RowKit

/-- The sixteen digits. -/
def digB : ByteArray := ⟨#[48, 49, 50, 51, 52, 53, 54, 55, 56, 57, 97, 98, 99, 100, 101, 102]⟩
theorem dig_cut : ∀ d : Fin 16, (digB.extract d.1 (d.1 + 1)).data = #[dg d.1] := by decide +kernel
theorem run_dig8 (d : Nat) (hd : d < 16) (W : World) : (Instr.sliceAt 9 (.string ⟨#[48, 49, 50, 51, 52, 53, 54, 55, 56, 57, 97, 98, 99, 100, 101, 102]⟩) (some (.int .u8 (d : Int))) (some (.int .u8 ((d : Int) + 1))) none).run Tryd.prog W = .ok (.string ⟨#[dg d]⟩) W := by
  have h1 := run_slice_string (P := Tryd.prog) (w := W) 9 digB .u8 .u8 (d : Int) ((d : Int) + 1) Tryd.underlying9 (by omega) (by omega) (by show (d : Int) + 1 ≤ ((16 : Nat) : Int); omega)
  have h2 := dig_cut ⟨d, hd⟩
  have e1 : (d : Int).toNat = d := by omega
  have e2 : ((d : Int) + 1).toNat = d + 1 := by omega
  rw [e1, e2] at h1
  rw [run_sliceAt_string (h := Tryd.underlying9)]
  refine Eq.trans h1 ?_
  congr 2
  exact ByteArray.ext h2
theorem cat2 (l : List UInt8) (x y : UInt8) : ((⟨l.toArray⟩ : ByteArray) ++ ⟨#[x]⟩) ++ ⟨#[y]⟩ = ⟨(l ++ [x, y]).toArray⟩ := by
  apply ByteArray.ext
  apply Array.ext'
  simp

theorem below_drewN {B : Nat} {w w' : World} (h : Below B w w') (n : Nat) : Below B w (w'.drewN n) := ⟨h.os, h.tape, h.output, h.size, h.block⟩
set_option maxRecDepth 20000 in
set_option maxHeartbeats 2000000 in
theorem RHex_any (A : Option Addr) (n c : Nat) (l : List UInt8) (w : World) (h : Rd w 1 A n c (l.map b8)) (hn : n ≤ 1073741824) :
    Calls Tryd.prog 13 #[.slice A n c] w fun e w' => e = .returned (.string ⟨(hexL l).toArray⟩) ∧ Below w.heap.size w w' := by
  have hln := h.lenb
  go_enter Tryd.func13, Tryd.ntmps13
  go_wp2_with fail
  go_loopw [3, 4] (fun s i wr => ∃ k : Nat, k ≤ n ∧ i = .int .i64 k ∧ s = .string ⟨(hexL (l.take k)).toArray⟩ ∧ Below w.heap.size w wr) (fun _ i _ => n - (intOf i).toNat)
  case atStart => exact ⟨0, by omega, rfl, rfl, Below.refl _ _⟩
  case round =>
    obtain ⟨k, hk, rfl, rfl, hb⟩ := hrel
    by_cases hkn : k < n
    · have hidx := run_index_rd (P := Tryd.prog) (A := A) (n := n) (c := c) eb h.nil h.le k hkn
      rw [Nat.mul_one] at hidx
      have hce := (h.below hb).cell k (b8 (l[k]'(by omega))) (by rw [List.getElem?_map, List.getElem?_eq_getElem (by omega)]; rfl)
      have hstep := hexL_take l k (by omega)
      generalize l[k]'(by omega) = x at hce hstep
      have hx := x.toNat_lt
      unfold hexB at hstep
      obtain ⟨p, hp⟩ : ∃ p, x.toNat / 16 = p := ⟨_, rfl⟩
      obtain ⟨q, hq⟩ : ∃ q, x.toNat % 16 = q := ⟨_, rfl⟩
      have hx' : (x.toNat : Int) ≤ 255 := by omega
      have a1 : IntKind.u8.wrap ((x.toNat : Int).tdiv 16) = (p : Int) := by rw [IntWalk.u8_quo _ _ (by omega)]; omega
      have a2 : (x.toNat : Int).tmod 16 = (q : Int) := by rw [IntWalk.rem_in _ _ (by omega)]; omega
      have a3 : (x.toNat : Int) / 16 = (p : Int) := by omega
      have a4 : (x.toNat : Int) % 16 = (q : Int) := by omega
      have hp16 : p < 16 := by omega
      have hq16 : q < 16 := by omega
      have a5 : IntKind.u8.wrap ((p : Int) + 1) = (p : Int) + 1 := IntWalk.u8_in _ (by omega)
      have a6 : IntKind.u8.wrap ((q : Int) + 1) = (q : Int) + 1 := IntWalk.u8_in _ (by omega)
      have r1 := run_dig8 p hp16
      have r2 := run_dig8 q hq16
      rw [hp, hq] at hstep
      have HS := Lib.hid hstep
      have hL : (hexL (l.take k)).length ≤ 2147483648 := by rw [hexL_length, List.length_take]; omega
      have HL := Lib.hid hL
      generalize hexL (l.take k) = T at *
      unfold b8 at hce
      have hk0 : (0 : Int) ≤ k := by omega
      have hkn' : (k : Int) < n := by omega
      have hp0 : (0 : Int) ≤ p := by omega
      have hq0 : (0 : Int) ≤ q := by omega
      have hp1 : (p : Int) ≤ 15 := by omega
      have hq1 : (q : Int) ≤ 15 := by omega
      clear hstep hp hq hp16 hq16 hx
      generalize (x.toNat : Int) = X at *
      go_wp2_with fail
      go_quiet (fail)
      go_wp2_with fail
      go_roundw
      case rel => exact ⟨k + 1, by omega, by go_num, by rw [HS.out, cat2], below_drewN hb nq⟩
      case measure => simp [intOf]; omega
    · have e : k = n := by omega
      subst e
      rw [List.take_of_length_le (by omega)]
      go_wp2_with fail
      go_ret
      exact ⟨rfl, hb⟩

end Go.Proofs.YtalbnmekejmnmaaDoor
