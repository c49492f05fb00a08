/-
  Package names: the document's Print of every number.
-/
import Derived.Test.YtogkmlodcdgegaaDoorDec
import Derived.Test.YtogkmlodcdgegaaDoorPri
namespace Go.Proofs.YtogkmlodcdgegaaDoor
open Go.RowKit

theorem decL_eq (v : Nat) : decL v = Lib.decDigits v := by
  induction v using Nat.strongRecOn with
  | ind v ih =>
    by_cases h : v < 10
    · rw [decL_small v h, Lib.decDigits, dif_pos h]
      rfl
    · rw [decL_big v (by omega), Lib.decDigits, dif_neg h, ih (v / 10) (by omega)]
      rfl
theorem printB_pos (v : Nat) : printB (v : Int) = ⟨(decL v).toArray⟩ := by
  unfold printB Lib.itoa
  rw [if_neg (by omega), Int.toNat_natCast, decL_eq]
theorem printB_neg {n : Int} (h : n < 0) : printB n = ⟨(45 :: decL n.natAbs).toArray⟩ := by
  unfold printB Lib.itoa
  rw [if_pos h, decL_eq]
/-- The digits still to come, and those that stand. -/
def decAt (v m j : Nat) (T : List UInt8) : Prop := (j = 0 ∧ m = v ∧ T = []) ∨ (0 < j ∧ j + 3 * m ≤ v + 1 ∧ decL v = if m = 0 then T else decL m ++ T)
theorem decAt_next {v m j : Nat} {T : List UInt8} (h : decAt v m j T) (hm : j = 0 ∨ m ≠ 0) : decAt v (m / 10) (j + 1) (dgt (m % 10) :: T) := by
  have hm2 : decL m = if m / 10 = 0 then [dgt (m % 10)] else decL (m / 10) ++ [dgt (m % 10)] := by
    by_cases h10 : m < 10
    · rw [if_pos (by omega), decL_small m h10, Nat.mod_eq_of_lt h10]
    · rw [if_neg (by omega), decL_big m (by omega)]
  refine .inr ⟨by omega, ?_, ?_⟩
  · rcases h with ⟨h1, h2, _⟩ | ⟨h1, h2, _⟩
    · omega
    · omega
  · rcases h with ⟨_, h2, h3⟩ | ⟨h1, _, h2⟩
    · subst h2 h3
      exact hm2
    · rw [h2, if_neg (by omega), hm2]
      split <;> simp
theorem decAt_end {v j : Nat} {T : List UInt8} (h : decAt v 0 j T) (hj : j ≠ 0) : decL v = T := by
  rcases h with ⟨h1, _⟩ | ⟨_, _, h2⟩
  · exact absurd h1 hj
  · rw [h2, if_pos rfl]
theorem decL_le (v : Nat) : (decL v).length ≤ v / 10 + 1 := by
  induction v using Nat.strongRecOn with
  | ind v ih =>
    by_cases h : v < 10
    · rw [decL_small v h]
      simp
    · rw [decL_big v (by omega), List.length_append]
      have := ih (v / 10) (by omega)
      simp only [List.length_cons, List.length_nil]
      omega
theorem decAt_len {v m j : Nat} {T : List UInt8} (h : decAt v m j T) (hm : j = 0 ∨ m ≠ 0) : j + 1 ≤ v + 1 ∧ (j ≠ 0 → j + 2 ≤ v) ∧ m ≤ v := by
  rcases h with ⟨h1, h2, _⟩ | ⟨h1, h2, _⟩ <;> omega

set_option maxRecDepth 20000 in
set_option maxHeartbeats 2000000 in
theorem RPrint_pos (v : Nat) (w : World) (hv : (v : Int) ≤ 9223372036854775807) :
    Calls Tryd.prog 30 #[.int .i64 (v : Int)] w fun e w' => e = .returned (.string ⟨(decL v).toArray⟩) ∧ w = w' := by
  have hv0 : (0 : Int) ≤ v := by omega
  go_enter Tryd.func30, Tryd.ntmps30
  go_wp2_with fail
  go_loop [0, 3, 5, 6] (fun n s i _ => ∃ (m j : Nat) (T : List UInt8), n = .int .i64 m ∧ s = .string ⟨T.toArray⟩ ∧ i = .int .i64 j ∧ T.length ≤ j ∧ Hid (decAt v m j T)) (fun n _ i _ => (intOf n).toNat + (1 - (intOf i).toNat))
  case atStart => exact ⟨v, 0, [], rfl, rfl, rfl, by simp, .inl ⟨rfl, rfl, rfl⟩⟩
  case round =>
    obtain ⟨m, j, T, rfl, rfl, rfl, hTj, hH⟩ := hrel
    by_cases hgo : j = 0 ∨ m ≠ 0
    · obtain ⟨hl1, hl2, hmv⟩ := decAt_len hH.out hgo
      have hm : (m : Int) ≤ 9223372036854775807 := by omega
      obtain ⟨d, hd⟩ : ∃ d, m % 10 = d := ⟨_, rfl⟩
      obtain ⟨q, hq⟩ : ∃ q, m / 10 = q := ⟨_, rfl⟩
      have hnext := decAt_next hH.out hgo
      rw [hd, hq] at hnext
      have hmod : (m : Int) % 10 = (d : Int) := by omega
      have hdiv : (m : Int) / 10 = (q : Int) := by omega
      have hd10 : d < 10 := by omega
      have hd10' : (d : Int) ≤ 9 := by omega
      have hrun := run_digit d hd10
      have HNX := Lib.hid hnext
      have hq3 : q + (1 - (j + 1)) < m + (1 - j) := by omega
      clear hnext hd hq hH hmv
      have hj2 : (j : Int) ≤ 9223372036854775806 := by omega
      have hTl : ¬ (9223372036854775807 < 1 + T.length) := by omega
      have Fin : Hid (∃ (m' j' : Nat) (T' : List UInt8), Value.int .i64 (q : Int) = .int .i64 m' ∧ Value.string (⟨#[dgt d]⟩ ++ ⟨T.toArray⟩) = .string ⟨T'.toArray⟩ ∧ Value.int .i64 ((j : Int) + 1) = .int .i64 j' ∧ T'.length ≤ j' ∧ Hid (decAt v m' j' T')) := by
        show ∃ _, _
        exact ⟨q, j + 1, dgt d :: T, rfl, by rw [cat1], by go_num, by simp; omega, HNX.out⟩
      clear hTj hl1 hl2 HNX
      by_cases hj : j = 0
      · subst hj
        go_wp2_with fail
        refine ⟨Fin.out, ?_⟩
        simp [intOf]
        omega
      · have hj0 : ((j : Int) == 0) = false := by simpa using hj
        have hm0 : ((m : Int) != 0) = true := by
          simp
          omega
        clear hj hgo
        go_wp2_with fail
        refine ⟨Fin.out, ?_⟩
        simp [intOf]
        omega
    · obtain rfl : m = 0 := by omega
      have hj1 : ((j : Int) == 0) = false := by
        simp
        omega
      have HF := Lib.hid (decAt_end hH.out (by omega))
      clear hH hgo hTj
      go_wp2_with fail
      go_ret
      rw [HF.out]
      exact ⟨rfl, rfl⟩

set_option maxRecDepth 20000 in
set_option maxHeartbeats 2000000 in
theorem RPrint_neg (x : Int) (v : Nat) (w : World) (hx : x < 0) (hxv : x = -(v : Int)) (hv : -9223372036854775808 ≤ x) :
    Calls Tryd.prog 30 #[.int .i64 x] w fun e w' => e = .returned (.string ⟨(45 :: decL v).toArray⟩) ∧ w = w' := by
  have HX := Lib.hid hxv
  clear hxv
  go_enter Tryd.func30, Tryd.ntmps30
  go_wp2_with fail
  go_loop [0, 3, 5, 6] (fun n s i _ => ∃ (y : Int) (m j : Nat) (T : List UInt8), n = .int .i64 y ∧ s = .string ⟨T.toArray⟩ ∧ i = .int .i64 j ∧ y ≤ 0 ∧ Hid (y = -(m : Int)) ∧ T.length ≤ j ∧ Hid (decAt v m j T)) (fun n _ i _ => (intOf n).natAbs + (1 - (intOf i).toNat))
  case atStart => exact ⟨x, v, 0, [], rfl, rfl, rfl, by omega, HX.out, by simp, .inl ⟨rfl, rfl, rfl⟩⟩
  case round =>
    obtain ⟨y, m, j, T, rfl, rfl, rfl, hy, hym, hTj, hH⟩ := hrel
    have hv2 : v ≤ 9223372036854775808 := by have := HX.out; omega
    by_cases hgo : j = 0 ∨ m ≠ 0
    · obtain ⟨hl1, hl2, hmv⟩ := decAt_len hH.out hgo
      obtain ⟨d, hd⟩ : ∃ d, m % 10 = d := ⟨_, rfl⟩
      obtain ⟨q, hq⟩ : ∃ q, m / 10 = q := ⟨_, rfl⟩
      have hnext := decAt_next hH.out hgo
      rw [hd, hq] at hnext
      obtain ⟨t, ht⟩ : ∃ t : Int, t = -(d : Int) := ⟨_, rfl⟩
      obtain ⟨z, hz⟩ : ∃ z : Int, z = -(q : Int) := ⟨_, rfl⟩
      have hyl : -9223372036854775808 ≤ y := by have := hym.out; omega
      have hmod : y.tmod 10 = t := by
        rw [hym.out, Int.neg_tmod, IntWalk.rem_in _ _ (by omega), ht]
        omega
      have hdiv : y.tdiv 10 = z := by
        rw [hym.out, Int.neg_tdiv, Int.tdiv_eq_ediv_of_nonneg (by omega), hz]
        omega
      have hz0 : z ≤ 0 := by omega
      have hzl : -9223372036854775808 ≤ z := by omega
      have hdw : IntKind.i64.wrap (y.tdiv 10) = z := by rw [hdiv]; exact IntWalk.i64_in _ (by omega)
      have hd10 : d < 10 := by omega
      have hd10' : (d : Int) ≤ 9 := by omega
      have hrun := run_digit d hd10
      have HNX := Lib.hid hnext
      have HZ := Lib.hid hz
      have hq3 : z.natAbs + (1 - (j + 1)) < y.natAbs + (1 - j) := by have := hym.out; omega
      have hj2 : (j : Int) ≤ 9223372036854775806 := by omega
      have hTl : ¬ (9223372036854775807 < 1 + T.length) := by omega
      have Fin : Hid (∃ (y' : Int) (m' j' : Nat) (T' : List UInt8), Value.int .i64 z = .int .i64 y' ∧ Value.string (⟨#[dgt d]⟩ ++ ⟨T.toArray⟩) = .string ⟨T'.toArray⟩ ∧ Value.int .i64 ((j : Int) + 1) = .int .i64 j' ∧ y' ≤ 0 ∧ Hid (y' = -(m' : Int)) ∧ T'.length ≤ j' ∧ Hid (decAt v m' j' T')) := by
        show ∃ _, _
        exact ⟨z, q, j + 1, dgt d :: T, rfl, by rw [cat1], by go_num, hz0, HZ.out, by simp; omega, HNX.out⟩
      have hy0 : j ≠ 0 → y ≠ 0 := by have := hym.out; omega
      have hneg : -t = (d : Int) := by omega
      have hneg2 : IntKind.i64.wrap (-t) = (d : Int) := by rw [hneg]; exact IntWalk.i64_in _ (by omega)
      have ht9 : -9 ≤ t := by omega
      have hd0 : d = 0 ∨ t < 0 := by omega
      clear hnext hd hq hH hmv hz hym hTj hl1 hl2 HNX hv2
      rcases hd0 with rfl | ht0
      · obtain rfl : t = 0 := by omega
        clear ht hneg hneg2
        by_cases hj : j = 0
        · subst hj
          go_wp2_with fail
          refine ⟨Fin.out, ?_⟩
          simp only [intOf]
          omega
        · have hj0 : ((j : Int) == 0) = false := by simpa using hj
          have hm0 : (y != 0) = true := by
            simp
            exact hy0 hj
          clear hj hgo hy0
          go_wp2_with fail
          refine ⟨Fin.out, ?_⟩
          simp only [intOf]
          omega
      · clear ht
        by_cases hj : j = 0
        · subst hj
          go_wp2_with fail
          refine ⟨Fin.out, ?_⟩
          simp only [intOf]
          omega
        · have hj0 : ((j : Int) == 0) = false := by simpa using hj
          have hm0 : (y != 0) = true := by
            simp
            exact hy0 hj
          clear hj hgo hy0
          go_wp2_with fail
          refine ⟨Fin.out, ?_⟩
          simp only [intOf]
          omega
    · obtain rfl : m = 0 := by omega
      obtain rfl : y = 0 := by have := hym.out; omega
      have hj1 : ((j : Int) == 0) = false := by
        simp
        omega
      have hF := decAt_end hH.out (by omega)
      have hTl : ¬ (9223372036854775807 < 1 + T.length) := by
        have := decL_le v
        rw [hF] at this
        omega
      have HF := Lib.hid hF
      clear hF hH hgo hTj hym hv2
      go_wp2_with fail
      go_ret
      rw [HF.out]
      exact ⟨congrArg (fun b => Ending.returned (.string b)) (cat1 45 T), rfl⟩

/-- The document's Print. -/
theorem RPrint_any (n : Int) (h0 : -9223372036854775808 ≤ n) (h1 : n ≤ 9223372036854775807) (w : World) : Calls Tryd.prog 30 #[.int .i64 n] w fun e w' => e = .returned (.string (printB n)) ∧ w = w' := by
  by_cases hn : n < 0
  · rw [printB_neg hn]
    exact RPrint_neg n n.natAbs w hn (by omega) h0
  · obtain ⟨v, rfl⟩ := Int.eq_ofNat_of_zero_le (Int.not_lt.1 hn)
    have e : ((v : Nat) : Int) = (v : Int) := rfl
    rw [printB_pos]
    exact RPrint_pos v w h1

end Go.Proofs.YtogkmlodcdgegaaDoor
