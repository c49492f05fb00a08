/-
  Package reply, in plain words: a number's text is that of the number; the heads of statuses.
-/
import Derived.Test.YtogkmlodcdgegaaDoorReE
import Derived.Test.YtogkmlodcdgegaaDoorNaJ
namespace Go.Proofs.YtogkmlodcdgegaaDoor
open Go.RowKit

/-! ### A number that was read is written so -/
theorem dgt_back (x : UInt8) (h1 : 48 ≤ x.toNat) (h2 : x.toNat ≤ 57) : dgt (x.toNat - 48) = x := by
  unfold dgt
  rw [show 48 + (x.toNat - 48) = x.toNat by omega]
  exact UInt8.ofNat_toNat
theorem decL_on : ∀ (l : List UInt8) (a : Nat), digL l → 0 < a → decL (vL l a) = decL a ++ l
  | [], a, _, _ => by rw [vL, List.append_nil]
  | x :: l, a, h, ha => by
    have hx := h x (by simp)
    rw [vL, decL_on l (10 * a + (x.toNat - 48)) (fun y hy => h y (by simp [hy])) (by omega), decL_big _ (by omega)]
    have e1 : (10 * a + (x.toNat - 48)) / 10 = a := by omega
    have e2 : (10 * a + (x.toNat - 48)) % 10 = x.toNat - 48 := by omega
    rw [e1, e2, dgt_back x hx.1 hx.2, List.append_assoc]
    rfl
theorem decL_back {l : List UInt8} (h : digL l) (h0 : l ≠ []) (hz : ∀ y r, l = y :: r → r ≠ [] → 49 ≤ y.toNat) : decL (vL l 0) = l := by
  match l, h0 with
  | y :: r, _ =>
    have hy := h y (by simp)
    rw [vL]
    by_cases hr : r = []
    · subst hr
      rw [vL, decL_small _ (by omega)]
      rw [show 10 * 0 + (y.toNat - 48) = y.toNat - 48 by omega, dgt_back y hy.1 hy.2]
    · have h49 := hz y r rfl hr
      rw [decL_on r _ (fun x hx => h x (by simp [hx])) (by omega), decL_small _ (by omega)]
      rw [show 10 * 0 + (y.toNat - 48) = y.toNat - 48 by omega, dgt_back y hy.1 hy.2]
      rfl
theorem numR_split {s : ByteArray} {N : Int} (h : numR s = (N, 0)) : digS s ∧ 0 < s.size ∧ ¬ zeroS s ∧ N = (valS s s.size : Int) ∧ valS s s.size < 9223372036854775808 := by
  unfold numR at h
  split at h
  · rename_i h1
    split at h
    · rename_i h2
      exact ⟨h1.1, h1.2.1, h1.2.2, (Prod.mk.inj h).1.symm, h2⟩
    · exact absurd (Prod.mk.inj h).2 (by decide)
  · exact absurd (Prod.mk.inj h).2 (by decide)
theorem itoa_nat (v : Nat) : Lib.itoa (v : Int) = decL v := by
  unfold Lib.itoa
  rw [if_neg (by omega), Int.toNat_natCast, decL_eq]
theorem itoa_back {l : List UInt8} {N : Int} (h : numR ⟨l.toArray⟩ = (N, 0)) : Lib.itoa N = l := by
  obtain ⟨hd, h0, hz, rfl, _⟩ := numR_split h
  rw [itoa_nat, valS_all]
  have hdl := digL_of _ hd
  refine decL_back hdl (fun e => ?_) (fun y r hl hr => ?_)
  · rw [size_mk] at h0
    have e' : l = [] := e
    rw [e'] at h0
    simp at h0
  · have hl' : l = y :: r := hl
    refine head_list _ hd hz ?_ y r hl
    rw [size_mk, hl']
    have := List.length_pos_iff.2 hr
    simp
    omega
/-- Twenty digits or more are no number. -/
theorem numR_many {s : ByteArray} (h : 20 ≤ s.size) : (numR s).2 ≠ 0 := by
  intro h0
  have h1 : numR s = ((numR s).1, 0) := Prod.ext rfl h0
  obtain ⟨hd, _, hz, _, hlt⟩ := numR_split h1
  have hge := valS_ge s hd hz 19 (by omega) (by omega)
  have hle := valS_le s 20 s.size h
  rw [show (19 + 1 : Nat) = 20 from rfl] at hge
  omega

/-! ### The heads -/
theorem heads_apart : ∀ i j : Fin 11, i ≠ j → (headL (stI i.1)).isPrefixOf (headL (stI j.1)) = false := by decide +kernel

end Go.Proofs.YtogkmlodcdgegaaDoor
