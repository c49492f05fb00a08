/-
  The laws of layer 1: OctetOrder, OctetApart.
-/
import Derived.Test.YtmomebanpobbgaaLawB
import Derived.Test.YtmomebanpobbgaaPure2
import Derived.Test.YtmomebanpobbgaaQuiet
import Derived.Deep.RegionWith
import Derived.Deep.RegionHeld3
import Derived.Deep.DeepCutAuto
import Derived.BigQuiet
namespace Go.Proofs.Ytmomebanpobbgaa
open Go.RowKit Go.Sort

theorem put8_any (v : Int) (w : World) (hv0 : 0 ≤ v) (hv : v ≤ 18446744073709551615) :
    Calls Try.prog 11 #[.slice none 0 0, .int .u64 v, .int .i64 8] w fun e w' => ∃ A' c', e = .returned (.tuple #[.slice A' 8 c', .int .i64 0]) ∧ Own w' w.heap.size 5 1 A' 8 c' ((putB v.toNat 8).map b8) ∧ Below w.heap.size w w' := by
  refine (Put_any none 0 0 [] v 8 w (Rd.nil_ w 1) (by omega) hv0 hv).mono ?_
  rintro e w1 ⟨A1, n1, c1, rfl, ho1, hb1⟩
  have e0 : v.toNat / 256 ^ (8 : Int).toNat = 0 := by
    have : (256 : Nat) ^ (8 : Int).toNat = 18446744073709551616 := by decide
    rw [this]
    omega
  have e1 : putR [] v 8 = (putB v.toNat 8, 0) := by
    rw [putR_eq _ _ _ hv0 hv (by omega) (by omega), e0]
    simp
  rw [e1] at ho1 ⊢
  have h8 := ho1.lenb
  rw [putB_length] at h8
  subst h8
  exact ⟨A1, c1, rfl, ho1, hb1⟩

theorem octetOrder_walk (a : Int) (ha0 : 0 ≤ a) (ha1 : a ≤ 18446744073709551615) (b : Int) (hb0 : 0 ≤ b) (hb1 : b ≤ 18446744073709551615) (w : World) :
    Calls Try.prog 3 #[.int .u64 a, .int .u64 b] w fun e w' => e = .returned (.bool true) ∧ Below w.heap.size w w' := by
  go_enter Try.func3, Try.ntmps3
  go_wp2_with fail
  refine (put8_any a _ ha0 ha1).mono ?_
  rintro e w1 ⟨A1, c1, rfl, ho1, hbl1⟩
  go_wp2_with fail
  refine (put8_any b _ hb0 hb1).mono ?_
  rintro e w2 ⟨A2, c2, rfl, ho2, hbl2⟩
  go_wp2_with fail
  refine (begun_any _).mono ?_
  rintro e w3 ⟨rfl, hbl3⟩
  have hs1 := str_rd ((ho1.below hbl2).below hbl3).rd
  have hs2 := str_rd (ho2.below hbl3).rd
  have hord := Lib.hid (order8 a b ha0 ha1 hb0 hb1)
  go_wp2_with fail
  go_ret
  exact ⟨congrArg (fun x => Ending.returned (.bool x)) hord.out, (hbl1.trans (hbl2.mono hbl1.size)).trans (hbl3.mono (Nat.le_trans hbl1.size hbl2.size))⟩

set_option maxHeartbeats 2000000 in
theorem octetApart_walk (a : Int) (ha0 : 0 ≤ a) (ha1 : a ≤ 18446744073709551615) (b : Int) (hb0 : 0 ≤ b) (hb1 : b ≤ 18446744073709551615) (w : World) :
    Calls Try.prog 4 #[.int .u64 a, .int .u64 b] w fun e w' => e = .returned (.bool true) ∧ Below w.heap.size w w' := by
  have hX : ∃ X, countB a.toNat = X := ⟨_, rfl⟩
  have hY : ∃ Y, countB b.toNat = Y := ⟨_, rfl⟩
  obtain ⟨X, hX⟩ := hX
  obtain ⟨Y, hY⟩ := hY
  have hXp : 0 < X.length := by rw [← hX]; exact List.length_pos_iff.2 (countB_ne _)
  have hYp : 0 < Y.length := by rw [← hY]; exact List.length_pos_iff.2 (countB_ne _)
  have hap := count_apart a.toNat b.toNat (by omega) (by omega)
  have HX := Lib.hid hX
  have HY := Lib.hid hY
  rw [hX, hY] at hap
  have Hap := Lib.hid hap
  clear hX hY hap
  go_enter Try.func4, Try.ntmps4
  go_upto_region 1 with fail
  go_cut [5, 6] (fun x y wx => x = .string ⟨X.toArray⟩ ∧ y = .string ⟨Y.toArray⟩ ∧ Below w.heap.size w wx)
  case first =>
    go_region_with (first
      | (go_at_call_of 13 (Value.int IntKind.u64 a); refine (Count_any none 0 0 [] a _ (Rd.nil_ _ 1) (by omega) ha0 ha1).mono ?_; rintro e w1 ⟨A1, n1, c1, rfl, ho1, hbl1⟩; rw [List.nil_append, HX.out] at ho1; have hs1 := str_rd ho1.rd)
      | (go_at_call_of 13 (Value.int IntKind.u64 b); refine (Count_any none 0 0 [] b _ (Rd.nil_ _ 1) (by omega) hb0 hb1).mono ?_; rintro e w2 ⟨A2, n2, c2, rfl, ho2, hbl2⟩; rw [List.nil_append, HY.out] at ho2; have hs2 := str_rd ho2.rd; have hs3 := str_rd (ho1.below hbl2).rd))
    all_goals (go_wp2_with fail; go_meet; exact ⟨rfl, rfl, (Below.drew (Below.refl w.heap.size w)).trans (hbl1.trans (hbl2.mono hbl1.size))⟩)
  case rest =>
    obtain ⟨rfl, rfl, hb3⟩ := hcut
    by_cases hle : (X.length : Int) ≤ (Y.length : Int)
    all_goals
      by_cases hab : a = b
      · have hab' : (a == b) = true := by simpa using hab
        clear hab
        go_wp2_with fail
        refine wp_region_qb (by kernel_rfl) (by kernel_rfl) ?_
        repeat (go_big_quiet_step ((go_at_call 12; exact Calls.regrown_of (begun_any _))))
        refine wpQuiet_nil ?_
        intro wq hbq
        go_wp2_with fail
        go_ret
        exact ⟨rfl, hb3.trans (hbq.mono hb3.size)⟩
      · have hab' : (a == b) = false := by simpa using hab
        have hm1 : (X.length : Int) ≤ X.length := by omega
        have hsx := run_str_h (kh := .i64) Try.underlying9 X (min X.length Y.length) (by omega)
        have hsy := run_str_h (kh := .i64) Try.underlying9 Y (min X.length Y.length) (by omega)
        first | (rw [Nat.min_eq_left (by omega)] at hsx hsy Hap) | (rw [Nat.min_eq_right (by omega)] at hsx hsy Hap)
        go_wp2_with fail
        refine wp_region_qb (by kernel_rfl) (by kernel_rfl) ?_
        repeat (go_big_quiet_step ((go_at_call 12; exact Calls.regrown_of (begun_any _))))
        refine wpQuiet_nil ?_
        intro wq hbq
        go_wp2_with fail
        go_ret
        have hne : ∀ U V : List UInt8, (U = V → False) → Ending.returned (.bool (!U == V)) = Ending.returned (.bool true) := by
          intro U V h
          have : (U == V) = false := by simpa using h
          rw [this]
          rfl
        refine ⟨hne _ _ (fun e => hab ?_), hb3.trans (hbq.mono hb3.size)⟩
        have := Hap.out (by first | (rw [List.take_length]; exact e) | (rw [List.take_length (l := Y)]; exact e))
        omega

end Go.Proofs.Ytmomebanpobbgaa
