/-
  The document's answer to SetBit.
-/
import Derived.Test.YtmomebanpobbgaaRefD
namespace Go.Proofs.Ytmomebanpobbgaa
open Go.RowKit

theorem set_same {l : List UInt8} {m : Nat} {x : UInt8} (h : l[m]? = some x) : l.set m x = l := by
  apply List.ext_getElem?
  intro i
  rw [List.getElem?_set]
  split
  · rename_i e
    subst e
    split
    · exact h.symm
    · rename_i hl
      rw [List.getElem?_eq_none (by omega)]
  · rfl
theorem pow2_le (j k : Nat) (h : j ≤ k) : 2 ^ j ≤ 2 ^ k := Nat.pow_le_pow_right (by omega) h
theorem set_keep (x : UInt8) (j : Nat) (on : Bool) (h : (x.toNat / 2 ^ j % 2 == 1) = on) : setBitB x j on = x := by
  unfold setBitB
  rw [if_pos (by subst h; by_cases h1 : x.toNat / 2 ^ j % 2 = 1 <;> simp [h1]; omega)]
  simp
theorem set_add : ∀ x : Fin 256, ∀ j : Fin 8, (x.1 / 2 ^ j.1 % 2 == 1) = false → x.1 + 2 ^ j.1 < 256 := by decide +kernel
theorem set_sub : ∀ x : Fin 256, ∀ j : Fin 8, (x.1 / 2 ^ j.1 % 2 == 1) = true → 2 ^ j.1 ≤ x.1 := by decide +kernel
theorem set_on (x : UInt8) (j : Nat) (hj : j < 8) (u : Int) (hu : u = ((2 ^ j : Nat) : Int)) (h : (x.toNat / 2 ^ j % 2 == 1) = false) : ((x.toNat : Int) + u) % 256 = ((setBitB x j true).toNat : Int) := by
  have h1 := set_add ⟨x.toNat, x.toNat_lt⟩ ⟨j, hj⟩ h
  dsimp only at h1
  have h2 : x.toNat / 2 ^ j % 2 ≠ 1 := by simpa using h
  unfold setBitB
  simp only [if_true]
  rw [if_neg h2, UInt8.toNat_ofNat', Nat.mod_eq_of_lt h1, hu]
  generalize 2 ^ j = p at *
  omega
theorem set_off (x : UInt8) (j : Nat) (hj : j < 8) (u : Int) (hu : u = ((2 ^ j : Nat) : Int)) (h : (x.toNat / 2 ^ j % 2 == 1) = true) : ((x.toNat : Int) - u) % 256 = ((setBitB x j false).toNat : Int) := by
  have h1 := set_sub ⟨x.toNat, x.toNat_lt⟩ ⟨j, hj⟩ h
  dsimp only at h1
  have h2 : x.toNat / 2 ^ j % 2 = 1 := by simpa using h
  have hx := x.toNat_lt
  unfold setBitB
  simp only [Bool.false_eq_true, if_false]
  rw [if_neg (by omega), UInt8.toNat_ofNat', hu]
  generalize 2 ^ j = p at *
  rw [Nat.mod_eq_of_lt (by omega)]
  omega

set_option maxHeartbeats 4000000 in
theorem RSetBit_any (A : Option Addr) (n c : Nat) (l : List UInt8) (k : Int) (on : Bool) (w : World) (h : Rd w 1 A n c (l.map b8)) (hn : n ≤ 1073741824) (hk : k ≤ 9223372036854775807) (hk0 : -9223372036854775808 ≤ k) :
    Calls Try.prog 30 #[.slice A n c, .int .i64 k, .bool on] w fun e w' => ∃ A' n' c', e = .returned (.tuple #[.slice A' n' c', .int .i64 (setBitR l k on).2]) ∧ Own w' w.heap.size 5 1 A' n' c' ((setBitR l k on).1.map b8) ∧ Below w.heap.size w w' := by
  have hln := h.lenb
  have hT := Lib.hid (RBit_any A n c l k w h hn hk hk0)
  by_cases hb : k < 0 ∨ (n : Int) ≤ k / 8
  · have e : setBitR l k on = ([], 1) := if_pos (by omega)
    have e2 : bitR l k = (false, 1) := if_pos (by omega)
    rw [e]
    rw [e2] at hT
    dsimp only at hT
    clear hln e e2 hb
    go_enter Try.func30, Try.ntmps30
    go_wp2_with (go_at_call 28; refine hT.out.mono ?_; rintro e w1 ⟨rfl, rfl⟩)
    go_ret2
    exact ⟨_, _, _, rfl, Own.nil_ _ _ _ _, Below.refl _ _⟩
  · have h1 : 0 ≤ k := by omega
    have h8 : k / 8 < n := by omega
    obtain ⟨x, hx, hidx0, hcell0, hxb⟩ := h.byteAt eb (k / 8) (k / 8).toNat (by omega) (by omega)
    have e : setBitR l k on = (l.set (k / 8).toNat (setBitB x (k % 8).toNat on), 0) := by
      unfold setBitR
      rw [if_neg (by omega), getD_of hx.out]
    have e2 : bitR l k = (x.toNat / 2 ^ (k % 8).toNat % 2 == 1, 0) := by
      unfold bitR
      rw [if_neg (by omega), getD_of hx.out]
    rw [e]
    rw [e2] at hT
    dsimp only at hT ⊢
    obtain ⟨N, hN⟩ : ∃ N, (k % 8).toNat = N := ⟨_, rfl⟩
    have hN1 : (N : Int) ≤ k % 8 := by omega
    have hN2 : k % 8 ≤ (N : Int) := by omega
    have hN3 : N < 8 := by omega
    rw [hN] at hT ⊢
    obtain ⟨M, hM⟩ : ∃ M, (k / 8).toNat = M := ⟨_, rfl⟩
    rw [hM]
    obtain ⟨β, hβ⟩ : ∃ β, (x.toNat / 2 ^ N % 2 == 1) = β := ⟨_, rfl⟩
    rw [hβ] at hT
    have Hβ := Lib.hid hβ
    have Hx := hx
    have HM := Lib.hid hM
    have hml : M < n := by omega
    have h8' : k / 8 = (M : Int) := by omega
    have H8 := Lib.hid h8'
    clear e e2 hb hln hidx0 hcell0 hx hN hβ hM h8'
    cases on <;> cases β
    all_goals
      go_enter Try.func30, Try.ntmps30
      go_wp2_with (first
        | (go_at_call 28; refine hT.out.mono ?_; rintro e w1 ⟨rfl, rfl⟩)
        | (at_builtin; refine wpList_app rfl _ _ rfl eb (Own.lit _ w.heap.size [] _ 0 rfl (by decide) (Nat.le_refl _)) rfl (h.alloc _) rfl (b8_one _) (by omega) (by unfold maxLen; omega) (by simp) ?_; intro A1 c1 w1 ho1 hg1 hb1))
      rw [Nat.zero_add, List.nil_append] at ho1
      have hB1 := ((Below.refl w.heap.size w).alloc (Nat.le_refl _) _).grown hg1 (by simp) (by intro g hg; simp [blk] at hg; omega)
      clear hg1 hb1 hT
      obtain ⟨x', hx', hidx, hcell, hxb'⟩ := ho1.rd.byteAt eb (k / 8) M (by have := H8.out; omega) (by omega)
      obtain rfl : x = x' := by
        have := (Hx.out.symm.trans ((HM.out ▸ hx'.out) : l[(k / 8).toNat]? = some x'))
        simpa using this
      have hc1 := ho1.rd.le
      have hfr := ho1.free (k := M) (by omega)
      go_loop [11, 12] (fun v i => ∃ (j : Nat) (q : Int), j ≤ N ∧ i = .int .i64 j ∧ v = .int .i64 q ∧ 0 ≤ q ∧ q ≤ 128 ∧ Hid (q = ((2 ^ j : Nat) : Int))) (fun _ i => N - (intOf i).toNat)
      case atStart => exact ⟨0, 1, by omega, rfl, rfl, by omega, by omega, rfl⟩
      case round =>
        obtain ⟨j, q, hj, rfl, rfl, hq0, hq1, hq⟩ := hrel
        by_cases hjn : j < N
        · have h64 := pow2_le j 6 (by omega)
          have hq6 : q ≤ 64 := by rw [hq.out]; omega
          clear h64
          go_wp2_with fail
          refine ⟨⟨j + 1, q * 2, by omega, by go_num, rfl, by omega, by omega, ?_⟩, by simp [intOf]; omega⟩
          show _ = _
          rw [hq.out, Nat.pow_succ]
          omega
        · have ej : j = N := by omega
          subst ej
          go_wp2_with fail
          go_ret2
          have hkc : M < c1 := by omega
          first
            | (refine ⟨A1, n, c1, rfl, ?_, hB1⟩
               rw [← List.map_set, set_keep x j _ Hβ.out, set_same hx'.out]
               exact ho1)
            | (have e := set_on x j hN3 q hq.out Hβ.out
               have ho2 := ho1.store hkc (.int .u8 (((x.toNat : Int) + q) % 256))
               refine ⟨A1, n, c1, rfl, ?_, below_store hB1 ho1 hkc _⟩
               rw [e, map_set_b8] at ho2
               rw [e, ← List.map_set]
               exact ho2)
            | (have e := set_off x j hN3 q hq.out Hβ.out
               have ho2 := ho1.store hkc (.int .u8 (((x.toNat : Int) - q) % 256))
               refine ⟨A1, n, c1, rfl, ?_, below_store hB1 ho1 hkc _⟩
               rw [e, map_set_b8] at ho2
               rw [e, ← List.map_set]
               exact ho2)

end Go.Proofs.Ytmomebanpobbgaa
