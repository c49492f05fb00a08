/-
  The document's answer to target: Escape.
-/
import Derived.Test.YteldghiejmpknaaDoorTaM
import Derived.Test.YteldghiejmpknaaDoorTaP
import Derived.IntWalk
namespace Go.Proofs.YteldghiejmpknaaDoor
open Go.RowKit

def digU : ByteArray := ⟨#[48, 49, 50, 51, 52, 53, 54, 55, 56, 57, 65, 66, 67, 68, 69, 70]⟩
theorem digU_cut : ∀ d : Fin 16, (digU.extract d.1 (d.1 + 1)).data = #[hexU d.1] := by decide +kernel
theorem run_digU (d : Nat) (hd : d < 16) (W : World) : (Instr.sliceAt 9 (.string ⟨#[48, 49, 50, 51, 52, 53, 54, 55, 56, 57, 65, 66, 67, 68, 69, 70]⟩) (some (.int .u8 (d : Int))) (some (.int .u8 ((d : Int) + 1))) none).run Tryd.prog W = .ok (.string ⟨#[hexU d]⟩) W := by
  have h1 := run_slice_string (P := Tryd.prog) (w := W) 9 digU .u8 .u8 (d : Int) ((d : Int) + 1) Tryd.underlying9 (by omega) (by omega) (by show (d : Int) + 1 ≤ ((16 : Nat) : Int); omega)
  have h2 := digU_cut ⟨d, hd⟩
  have e1 : (d : Int).toNat = d := by omega
  have e2 : ((d : Int) + 1).toNat = d + 1 := by omega
  rw [e1, e2] at h1
  rw [run_sliceAt_string (h := Tryd.underlying9)]
  refine Eq.trans h1 ?_
  congr 2
  exact ByteArray.ext h2
theorem cat4 (l : List UInt8) (x y z : UInt8) : (((⟨l.toArray⟩ : ByteArray) ++ ⟨#[x]⟩) ++ ⟨#[y]⟩) ++ ⟨#[z]⟩ = ⟨(l ++ [x, y, z]).toArray⟩ := by
  apply ByteArray.ext
  apply Array.ext'
  simp
theorem cat1 (l : List UInt8) (x : UInt8) : (⟨l.toArray⟩ : ByteArray) ++ ⟨#[x]⟩ = ⟨(l ++ [x]).toArray⟩ := cat_mk l [x]

set_option maxRecDepth 20000 in
set_option maxHeartbeats 8000000 in
theorem REscape_any (s : List UInt8) (hs : s.length ≤ 100000000) (w : World) : Calls Tryd.prog 19 #[.string ⟨s.toArray⟩] w fun e w' => e = .returned (.string ⟨(escL s).toArray⟩) ∧ Below w.heap.size w w' := by
  have hsz := size_mk s
  obtain ⟨L, hL⟩ : ∃ L, s.length = L := ⟨_, rfl⟩
  rw [hL] at hsz hs
  have HL := Lib.hid hL
  clear hL
  go_enter Tryd.func19, Tryd.ntmps19
  go_wp2_with fail
  go_loopw [3, 4] (fun ov i wr => ∃ (k : Nat) (o : List UInt8), k ≤ L ∧ i = .int .i64 k ∧ ov = .string ⟨o.toArray⟩ ∧ Hid (o = escL (s.take k)) ∧ Below w.heap.size w wr) (fun _ i _ => L - (intOf i).toNat)
  case atStart => exact ⟨0, [], by omega, rfl, rfl, rfl, Below.refl _ _⟩
  case round =>
    obtain ⟨k, o, hk, rfl, rfl, hO, hb⟩ := hrel
    by_cases hkL : k < L
    · have hx : s[k]? = some (s[k]'(by rw [HL.out]; exact hkL)) := List.getElem?_eq_getElem _
      generalize s[k]'(by rw [HL.out]; exact hkL) = x at hx
      have hi : ∀ W, (Instr.index 9 (.string ⟨s.toArray⟩) (.int .i64 (k : Int))).run Tryd.prog W = .ok (.int .u8 (x.toNat : Int)) W := fun W => run_str_at (P := Tryd.prog) Tryd.underlying9 s k x hx (kl := .i64) W
      have hk' : (k : Int) < L := by omega
      have HPL := Lib.hid (fun W => rplain_any x W)
      have hnx := escL_take hx
      have hso := size_mk o
      have hol : o.length ≤ 400000000 := by
        rw [hO.out]
        have := escL_len (s.take k)
        rw [List.length_take, HL.out] at this
        omega
      obtain ⟨lo, hlo⟩ : ∃ lo, o.length = lo := ⟨_, rfl⟩
      rw [hlo] at hso hol
      have HDR := Lib.hid (drop_at hx)
      clear hx hkL hlo
      cases hp : plB x
      · rw [hp] at HPL
        have HNX2 : Hid (escL (s.take (k + 1)) = o ++ [37, hexU (x.toNat / 16), hexU (x.toNat % 16)]) := by
          show _ = _
          rw [hnx, ← hO.out]
          unfold escB
          rw [hp]
          rfl
        have hx256 := x.toNat_lt
        obtain ⟨p, hpd⟩ : ∃ p, x.toNat / 16 = p := ⟨_, rfl⟩
        obtain ⟨q, hqd⟩ : ∃ q, x.toNat % 16 = q := ⟨_, rfl⟩
        have hx' : (x.toNat : Int) ≤ 255 := by omega
        have a1 : IntKind.u8.wrap ((x.toNat : Int).tdiv 16) = (p : Int) := by rw [IntWalk.u8_quo _ _ (by omega)]; omega
        have a2 : (x.toNat : Int).tmod 16 = (q : Int) := by rw [IntWalk.rem_in _ _ (by omega)]; omega
        have a3 : (x.toNat : Int) / 16 = (p : Int) := by omega
        have a4 : (x.toNat : Int) % 16 = (q : Int) := by omega
        have hp16 : p < 16 := by omega
        have hq16 : q < 16 := by omega
        have a5 : IntKind.u8.wrap ((p : Int) + 1) = (p : Int) + 1 := IntWalk.u8_in _ (by omega)
        have a6 : IntKind.u8.wrap ((q : Int) + 1) = (q : Int) + 1 := IntWalk.u8_in _ (by omega)
        have r1 := run_digU p hp16
        have r2 := run_digU q hq16
        rw [hpd, hqd] at HNX2
        have hk0 : (0 : Int) ≤ k := by omega
        have hp0 : (0 : Int) ≤ p := by omega
        have hq0 : (0 : Int) ≤ q := by omega
        have hp1 : (p : Int) ≤ 15 := by omega
        have hq1 : (q : Int) ≤ 15 := by omega
        clear hp hnx hpd hqd hp16 hq16 hx256
        generalize (x.toNat : Int) = X at *
        go_wp2_with fail
        refine (HPL.out _).mono ?_
        rintro e w2 ⟨rfl, rfl⟩
        go_upto_region 7 with fail
        go_quiet (fail)
        have hb9 := below_drewN hb nq
        go_wp2_with fail
        go_roundw
        case rel => exact ⟨k + 1, o ++ [37, hexU p, hexU q], by omega, by go_num, by rw [cat4], HNX2.out.symm, hb9⟩
        case measure => simp [intOf]; omega
      · rw [hp] at HPL
        have HNX2 : Hid (escL (s.take (k + 1)) = o ++ [x]) := by
          show _ = _
          rw [hnx, ← hO.out]
          unfold escB
          rw [hp]
          rfl
        have hsl : ∀ W, (Instr.sliceAt 9 (.string ⟨s.toArray⟩) (some (.int .i64 (k : Int))) (some (.int .i64 ((k : Int) + 1))) none).run Tryd.prog W = .ok (.string ⟨#[x]⟩) W := fun W => by
          have := run_str_lh (P := Tryd.prog) Tryd.underlying9 s k (k + 1) (by omega) (by rw [HL.out]; omega) (kl := .i64) (kh := .i64) (I := k) (J := (k : Int) + 1) rfl (by omega) W
          rw [this, HDR.out, show k + 1 - k = 1 by omega]
          rfl
        have hs1 : (⟨#[x]⟩ : ByteArray).size = 1 := rfl
        clear hp hnx
        go_wp2_with fail
        refine (HPL.out _).mono ?_
        rintro e w2 ⟨rfl, rfl⟩
        go_wp2_with fail
        go_roundw
        case rel => exact ⟨k + 1, o ++ [x], by omega, by go_num, by rw [cat1], HNX2.out.symm, hb⟩
        case measure => simp [intOf]; omega
    · obtain rfl : k = L := by omega
      have hfin : o = escL s := by rw [hO.out, List.take_of_length_le (by rw [HL.out]; exact Nat.le_refl _)]
      clear hkL hO
      subst hfin
      go_wp2_with fail
      go_ret
      exact ⟨rfl, hb⟩

end Go.Proofs.YteldghiejmpknaaDoor
