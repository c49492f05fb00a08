/-
  The contracts of the document's answer to octet (package cofferref1): each function hands back what octet's does. Put, At, Count, Text, Zig, Zag.
-/
import Derived.Test.YtebnmpgoiedicaaOct3
namespace Go.Proofs.Ytebnmpgoiedicaa
open Go.RowKit

theorem shr_eq (v k : Int) (hv : 0 ≤ v) (hk : 0 ≤ k) : v / 2 ^ (8 * k).toNat = ((v.toNat / 256 ^ k.toNat : Nat) : Int) := by
  obtain ⟨V, rfl⟩ := Int.eq_ofNat_of_zero_le hv
  obtain ⟨K, rfl⟩ := Int.eq_ofNat_of_zero_le hk
  have e : (8 * (K : Int)).toNat = 8 * K := by omega
  have e2 : (256 : Nat) ^ K = 2 ^ (8 * K) := by rw [Nat.pow_mul]
  rw [e]
  simp only [Int.toNat_natCast]
  rw [e2, Int.natCast_ediv, Int.natCast_pow]
  rfl
theorem putR_eq (l : List UInt8) (v k : Int) (hv0 : 0 ≤ v) (hv : v ≤ 18446744073709551615) (h1 : 1 ≤ k) (h8 : k ≤ 8) :
    putR l v k = if v.toNat / 256 ^ k.toNat ≠ 0 then ([], 2) else (l ++ putB v.toNat k.toNat, 0) := by
  unfold putR
  rw [if_neg (by omega), shr_eq v k hv0 (by omega)]
  by_cases h : k < 8
  · by_cases h0 : v.toNat / 256 ^ k.toNat = 0
    · rw [h0]; simp
    · have : (((v.toNat / 256 ^ k.toNat : Nat) : Int) != 0) = true := by generalize v.toNat / 256 ^ k.toNat = y at *; simp; omega
      rw [if_pos ⟨h, this⟩, if_pos h0]
  · have e : k = 8 := by omega
    subst e
    have e0 : v.toNat / 256 ^ (8 : Int).toNat = 0 := by
      have : (256 : Nat) ^ (8 : Int).toNat = 18446744073709551616 := by decide
      rw [this]
      omega
    rw [e0]
    simp

theorem byte_mod (q : Int) (h0 : 0 ≤ q) : Value.int .u8 (q % 256) = b8 (UInt8.ofNat q.toNat) := by
  rw [b8_ofNat]
  congr 1
  omega

set_option maxHeartbeats 400000 in
theorem RPut_any (A : Option Addr) (n c : Nat) (l : List UInt8) (v k : Int) (w : World) (h : Rd w 1 A n c (l.map b8)) (hn : n ≤ 1073741824) (hv0 : 0 ≤ v) (hv : v ≤ 18446744073709551615) :
    Calls Try.prog 25 #[.slice A n c, .int .u64 v, .int .i64 k] w fun e w' => ∃ A' n' c', e = .returned (.tuple #[.slice A' n' c', .int .i64 (putR l v k).2]) ∧ Own w' w.heap.size 5 1 A' n' c' ((putR l v k).1.map b8) ∧ Below w.heap.size w w' := by
  by_cases hk : k < 1 ∨ 8 < k
  · have e : putR l v k = ([], 1) := if_pos hk
    rw [e]
    rcases hk with hk | hk
    all_goals
      go_enter Try.func25, Try.ntmps25
      go_wp2_with fail
      go_ret2
      exact ⟨_, _, _, rfl, Own.nil_ _ _ _ _, Below.refl _ _⟩
  have hk1 : 1 ≤ k := by omega
  have hk8 : k ≤ 8 := by omega
  have he := putR_eq l v k hv0 hv hk1 hk8
  obtain ⟨R, hR⟩ : ∃ R, putR l v k = R := ⟨_, rfl⟩
  rw [hR] at he ⊢
  have He := Lib.hid he
  clear he hR hk
  obtain ⟨K, rfl⟩ := Int.eq_ofNat_of_zero_le (show 0 ≤ k by omega)
  go_enter Try.func25, Try.ntmps25
  go_wp2_with fail
  go_loopw [8, 1, 9] (fun s x i wr => ∃ (j : Nat) (q : Int) (A' : Option Addr) (n' c' : Nat), j ≤ K ∧ 0 ≤ q ∧ q ≤ 18446744073709551615 ∧ i = .int .i64 j ∧ x = .int .u64 q ∧ s = .slice A' n' c' ∧ Own wr w.heap.size 5 1 A' n' c' ((putB v.toNat j).map b8) ∧ Below w.heap.size w wr ∧ Hid (q.toNat = v.toNat / 256 ^ j)) (fun _ _ i _ => K - (intOf i).toNat)
  case atStart => exact ⟨0, v, none, 0, 0, by omega, hv0, hv, rfl, rfl, rfl, Own.nil_ _ _ _ _, Below.refl _ _, by simp [Hid]⟩
  case round =>
    obtain ⟨j, q, A', n', c', hj, hq0, hq1, rfl, rfl, rfl, ho, hb, hq⟩ := hrel
    have hlen := ho.lenb
    rw [putB_length] at hlen
    have hln := h.lenb
    have hB := hb.size
    by_cases hjn : j < K
    · go_wp2_with (at_builtin; refine wpList_app rfl _ _ rfl eb (Own.lit _ w.heap.size [_] _ 1 rfl (by decide) hB) rfl (ho.alloc _).rd rfl (b8_one _) (by omega) (by unfold maxLen; omega) (by simp; omega) ?_; intro A2 c2 w2 ho2 hg2 hb2)
      go_roundw
      case rel =>
        rw [byte_mod q hq0] at ho2
        refine ⟨j + 1, q / 256, A2, _, c2, by omega, by omega, by omega, by go_num, rfl, rfl, ?_, ?_, ?_⟩
        · rw [putB_cons, ← hq.out]
          simpa using ho2
        · exact (hb.alloc hB _).grown hg2 (by simp; omega) (by intro g hg; simp [blk] at hg; omega)
        · show _ = _
          have e : (q / 256).toNat = q.toNat / 256 := by omega
          rw [e, hq.out, Nat.div_div_eq_div_mul, Nat.pow_succ]
      case measure => simp [intOf]; omega
    · have e : j = K := by omega
      subst e
      have hH := He.out
      simp only [Int.toNat_natCast, ← hq.out] at hH
      by_cases hz : 0 < q
      · rw [if_pos (by omega)] at hH
        have HH := Lib.hid hH
        clear hH He
        go_wp2_with fail
        go_ret2
        rw [HH.out]
        exact ⟨_, _, _, rfl, Own.nil_ _ _ _ _, hb⟩
      · rw [if_neg (by omega)] at hH
        have HH := Lib.hid hH
        clear hH He
        go_wp2_with (first
          | (at_builtin; refine wpList_app rfl _ _ rfl eb (Own.lit _ w.heap.size [] _ 0 rfl (by decide) hB) rfl ((h.below hb).alloc _) rfl (b8_one _) (by omega) (by unfold maxLen; omega) (by simp; omega) ?_; intro A2 c2 w2 ho2 hg2 hb2; rw [Nat.zero_add, List.nil_append] at ho2)
          | (at_builtin; refine wpList_app rfl _ _ rfl eb ho2 rfl ((ho.alloc _).grown hg2 (by intro g hg e; simp [blk] at e; have := (ho.lt g hg).2; omega)).rd rfl (b8_one _) (by omega) (by unfold maxLen; omega) (by have := hg2.size; simp at this; omega) ?_; intro A3 c3 w3 ho3 hg3 hb3))
        go_ret2
        rw [HH.out]
        have hb5 := (hb.alloc hB _).grown hg2 (by simp; omega) (by intro g hg; simp [blk] at hg; omega)
        exact ⟨A3, _, c3, rfl, by simpa using ho3, below_apps hb5 (Nat.le_refl _) ho2 hg3⟩

end Go.Proofs.Ytebnmpgoiedicaa
