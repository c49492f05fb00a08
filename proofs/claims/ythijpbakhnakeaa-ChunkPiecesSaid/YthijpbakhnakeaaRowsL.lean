/-
  Slices of slices of bytes: a row at a place; cofferlaw0's Sum.
-/
import Derived.Test.YthijpbakhnakeaaLawA
import Derived.Test.YthijpbakhnakeaaOpen2
namespace Go.Proofs.Ythijpbakhnakeaa
open Go.RowKit

theorem er : ElemT Try.prog 22 27 (.slice none 0 0) 1 24 := ElemT.of Try.underlying22 (by kernel_rfl) rfl (by omega)

theorem Rows2.keep {w w' : World} {A : Option Addr} {n c : Nat} {ll : List Row} (h : Rows2 w A n c ll) (h1 : Below w.heap.size w w') : Rows2 w' A n c ll := ⟨h.rd.below h1, fun r hr => (h.each r hr).below h1⟩
theorem Rows2.len {w : World} {A : Option Addr} {n c : Nat} {ll : List Row} (h : Rows2 w A n c ll) : ll.length = n := by simpa using h.rd.len
theorem Rows2.at {w : World} {A : Option Addr} {n c : Nat} {ll : List Row} (h : Rows2 w A n c ll) (J : Int) (k : Nat) (hJ : J = k) (hk : k < n) :
    ∃ r, Hid (ll[k]? = some r) ∧ (∀ W, (Instr.indexAt 22 (.slice A n c) (.int .i64 J)).run Try.prog W = .ok (.pointer (some (at_ A k))) W) ∧
      w.cell? (at_ A k) = some (.slice r.A r.n r.c) ∧ Rd w 1 r.A r.n r.c (r.l.map b8) ∧ r.n ≤ maxLen := by
  subst hJ
  have hl := h.len
  have hkl : k < ll.length := by omega
  have hr := h.each ll[k] (List.getElem_mem hkl)
  refine ⟨ll[k], List.getElem?_eq_getElem hkl, fun W => by simpa using run_index_rd er h.rd.nil h.rd.le k hk W, h.rd.cell k _ ?_, hr, Nat.le_trans hr.le hr.max⟩
  rw [List.getElem?_map, List.getElem?_eq_getElem hkl]
  rfl

/-- How many bytes; at most a little more than most. -/
def sumP (most : Nat) : Nat → List Row → Nat
  | acc, [] => acc
  | acc, r :: ll => if most < acc then acc else if most < r.n then most + 1 else sumP most (acc + r.n) ll
theorem sumP_drop {most : Nat} {ll : List Row} {j : Nat} {r : Row} (h : ll[j]? = some r) (acc : Nat) : sumP most acc (ll.drop j) = if most < acc then acc else if most < r.n then most + 1 else sumP most (acc + r.n) (ll.drop (j + 1)) := by
  obtain ⟨hj, rfl⟩ := List.getElem?_eq_some_iff.1 h
  rw [List.drop_eq_getElem_cons hj, sumP]
theorem sumP_over {most : Nat} {ll : List Row} {acc : Nat} (h : most < acc) : sumP most acc ll = acc := by
  cases ll with
  | nil => rfl
  | cons r ll => rw [sumP, if_pos h]

set_option maxHeartbeats 1000000 in
theorem Sum_any {w : World} {A : Option Addr} {n c : Nat} {ll : List Row} (h : Rows2 w A n c ll) (most : Nat) (hm : most ≤ 1073741824) :
    Calls Try.prog 17 #[.slice A n c, .int .i64 (most : Int)] w fun e w' => e = .returned (.int .i64 (sumP most 0 ll : Nat)) ∧ w = w' := by
  have hl := h.len
  have hnm : n ≤ maxLen := Nat.le_trans h.rd.le h.rd.max
  unfold maxLen at hnm
  go_enter Try.func17, Try.ntmps17
  go_wp2_with fail
  go_loop [5, 6] (fun a i => ∃ (j acc : Nat), j ≤ n ∧ acc ≤ 2 * 1073741824 ∧ a = .int .i64 acc ∧ i = .int .i64 j ∧ Hid (sumP most 0 ll = sumP most acc (ll.drop j))) (fun _ i => n - (intOf i).toNat)
  case atStart => exact ⟨0, 0, by omega, by omega, rfl, rfl, by simp [Hid]⟩
  case round =>
    obtain ⟨j, acc, hj, hacc, rfl, rfl, hH⟩ := hrel
    by_cases hjn : j < n
    · by_cases ha : (acc : Int) ≤ most
      · obtain ⟨r, hr, hidx, hcell, hrd, hrm⟩ := h.at (j : Int) j rfl hjn
        unfold maxLen at hrm
        by_cases hrn : (most : Int) < r.n
        · go_wp2_with fail
          go_ret
          refine ⟨?_, rfl⟩
          rw [hH.out, sumP_drop hr.out, if_neg (by omega), if_pos (by omega)]
          rfl
        · go_wp2_with fail
          refine ⟨⟨j + 1, acc + r.n, by omega, by omega, by go_num, by go_num, ?_⟩, by simp [intOf]; omega⟩
          show _ = _
          rw [hH.out, sumP_drop hr.out, if_neg (by omega), if_neg (by omega)]
      · go_wp2_with fail
        go_ret
        refine ⟨?_, rfl⟩
        rw [hH.out, sumP_over (by omega)]
        rfl
    · go_wp2_with fail
      go_ret
      refine ⟨?_, rfl⟩
      rw [hH.out, List.drop_eq_nil_of_le (by omega)]
      rfl

end Go.Proofs.Ythijpbakhnakeaa
