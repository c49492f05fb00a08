/-
  The contracts of the document's answer to octet, the rest: TakeCount, TakeText, Wrap, Bit, SetBit.
-/
import Derived.Test.YtgdbdhfomlkpdaaRefB
namespace Go.Proofs.Ytgdbdhfomlkpdaa
open Go.RowKit

set_option maxRecDepth 100000 in
set_option maxHeartbeats 1000000 in
theorem RTakeCount_any (A : Option Addr) (n c : Nat) (l : List UInt8) (w : World) (h : Rd w 1 A n c (l.map b8)) (hn : n ≤ 1073741824) :
    Calls Try.prog 34 #[.slice A n c] w fun e w' => e = .returned (.tuple #[.int .u64 (tcR l).1, .int .i64 (tcR l).2.1, .int .i64 (tcR l).2.2]) ∧ w = w' := by
  have hln := Lib.hid h.lenb
  go_enter Try.func34, Try.ntmps34
  go_wp2_with fail
  go_loop [5, 6, 7] (fun v u i => ∃ (j : Nat) (q p : Int), j ≤ n ∧ i = .int .i64 j ∧ v = .int .u64 q ∧ u = .int .u64 p ∧ 0 ≤ q ∧ 0 ≤ p ∧ Hid (j ≤ 9 ∧ q.toNat < 128 ^ j ∧ takeC (l.drop j) j q.toNat = tcR l ∧ p = ((128 ^ j : Nat) : Int))) (fun _ _ i => n - (intOf i).toNat)
  case atStart => exact ⟨0, 0, 1, by omega, rfl, rfl, rfl, by omega, by omega, by omega, by decide, rfl, rfl⟩
  case round =>
    obtain ⟨j, q, p, hj, rfl, rfl, rfl, hq0, hp0, H⟩ := hrel
    by_cases hjn : j < n
    · obtain ⟨x, hx, hidx, hcell, hxb⟩ := h.byte eb hjn
      have hx0 : (0 : Int) ≤ (x.toNat : Int) := by omega
      have hj9 : j ≤ 9 := H.out.1
      have hst := Lib.hid (takeC_step hx.out q.toNat)
      have hqb := H.out.2.1
      have hpe := H.out.2.2.2
      have h19 : (128 : Nat) ^ 9 = 9223372036854775808 := by decide
      have hp9 : (128 : Nat) ^ j ≤ 128 ^ 9 := Nat.pow_le_pow_right (by omega) hj9
      have hpb : p ≤ 9223372036854775808 := by omega
      have hqp : q < p := by omega
      by_cases hbad : (j = 9 ∧ 1 < x.toNat) ∨ (x.toNat = 0 ∧ 0 < j)
      · have he : tcR l = (0, 0, 4) := by rw [← H.out.2.2.1, hst.out, if_pos hbad]
        have He := Lib.hid he
        have hbad' : (j = 9 ∧ 1 < x.toNat) ∨ (j = 9 ∧ x.toNat = 0) ∨ (j ≠ 9 ∧ x.toNat = 0 ∧ 0 < j) := by omega
        clear hbad he hst H hqb hpe h19 hp9 hpb hqp
        rcases hbad' with ⟨h9, h1⟩ | ⟨h9, h1⟩ | ⟨h9, h1, h2⟩
        · have h9' : ((j : Int) == 9) = true := by simp; omega
          have h2 : (1 : Int) < (x.toNat : Int) := by omega
          clear h9 h1
          go_wp2_with fail
          go_ret3
          rw [He.out]
          exact ⟨rfl, rfl⟩
        · have h9' : ((j : Int) == 9) = true := by simp; omega
          have h1' : ((x.toNat : Int) == 0) = true := by simp; omega
          have h2 : (0 : Int) < (j : Int) := by omega
          have h8 : (x.toNat : Int) < 128 := by omega
          have h3 : ¬ (1 : Int) < (x.toNat : Int) := by omega
          clear h9 h1
          go_wp2_with fail
          go_ret3
          rw [He.out]
          exact ⟨rfl, rfl⟩
        · have h9' : ((j : Int) == 9) = false := by simp; omega
          have h1' : ((x.toNat : Int) == 0) = true := by simp; omega
          have h2 : (0 : Int) < (j : Int) := by omega
          have h8 : (x.toNat : Int) < 128 := by omega
          clear h9 h1
          go_wp2_with fail
          go_ret3
          rw [He.out]
          exact ⟨rfl, rfl⟩
      · by_cases h128 : x.toNat < 128
        · have he : tcR l = (q.toNat + x.toNat * 128 ^ j, j + 1, 0) := by rw [← H.out.2.2.1, hst.out, if_neg hbad, if_pos h128]
          have hprod : (x.toNat : Int) * p = ((x.toNat * 128 ^ j : Nat) : Int) := by rw [hpe, Int.natCast_mul]
          have hb := (takeC_bounds l 0 0 (by decide) (by omega)).1
          change (tcR l).1 ≤ _ at hb
          rw [he] at hb
          dsimp only at hb
          have hp1 : 0 ≤ (x.toNat : Int) * p := Int.mul_nonneg hx0 hp0
          have hp2 : (x.toNat : Int) * p ≤ 18446744073709551615 := by omega
          have hp3 : q + (x.toNat : Int) * p ≤ 18446744073709551615 := by omega
          have hv : q + (x.toNat : Int) * p = ((q.toNat + x.toNat * 128 ^ j : Nat) : Int) := by omega
          have He := Lib.hid he
          have Hv := Lib.hid hv
          have hgood : (j = 9 ∧ x.toNat = 1) ∨ (j ≠ 9 ∧ x.toNat = 0 ∧ j = 0) ∨ (j ≠ 9 ∧ x.toNat ≠ 0) := by omega
          clear hbad he hst H hqb hpe h19 hp9 hpb hqp hprod hb hv
          rcases hgood with ⟨h9, h1⟩ | ⟨h9, h1, h2⟩ | ⟨h9, h1⟩
          · have h9' : ((j : Int) == 9) = true := by simp; omega
            have h1' : ((x.toNat : Int) == 0) = false := by simp; omega
            have h2 : ¬ (1 : Int) < (x.toNat : Int) := by omega
            clear h9 h1
            go_wp2_with fail
            go_ret3
            rw [He.out, ← Hv.out]
            exact ⟨rfl, rfl⟩
          · have h9' : ((j : Int) == 9) = false := by simp; omega
            have h1' : ((x.toNat : Int) == 0) = true := by simp; omega
            have h3 : ¬ (0 : Int) < (j : Int) := by omega
            clear h9 h1 h2
            go_wp2_with fail
            go_ret3
            rw [He.out, ← Hv.out]
            exact ⟨rfl, rfl⟩
          · have h9' : ((j : Int) == 9) = false := by simp; omega
            have h1' : ((x.toNat : Int) == 0) = false := by simp; omega
            clear h9 h1
            go_wp2_with fail
            go_ret3
            rw [He.out, ← Hv.out]
            exact ⟨rfl, rfl⟩
        · have h9 : j ≠ 9 := by omega
          have hp8 : (128 : Nat) ^ j ≤ 128 ^ 8 := Nat.pow_le_pow_right (by omega) (by omega)
          have h18 : (128 : Nat) ^ 8 = 72057594037927936 := by decide
          have hprod : ((x.toNat : Int) - 128) * p = (((x.toNat - 128) * 128 ^ j : Nat) : Int) := by rw [hpe, Int.natCast_mul]; congr 1; omega
          have h1 : (x.toNat - 128) * 128 ^ j ≤ 127 * 128 ^ j := Nat.mul_le_mul_right _ (by omega)
          have hnext : takeC (l.drop (j + 1)) (j + 1) (q.toNat + (x.toNat - 128) * 128 ^ j) = tcR l := by rw [← H.out.2.2.1, hst.out, if_neg hbad, if_neg h128]
          have hlt : q.toNat + (x.toNat - 128) * 128 ^ j < 128 ^ (j + 1) := by
            rw [Nat.pow_succ]
            omega
          have hp1 : 0 ≤ ((x.toNat : Int) - 128) * p := by omega
          have hp2 : ((x.toNat : Int) - 128) * p ≤ 18446744073709551615 := by omega
          have hp3 : q + ((x.toNat : Int) - 128) * p ≤ 18446744073709551615 := by omega
          have hv : (q + ((x.toNat : Int) - 128) * p).toNat = q.toNat + (x.toNat - 128) * 128 ^ j := by omega
          have hpn : p * 128 ≤ 18446744073709551615 := by omega
          have hpn2 : p * 128 = ((128 ^ (j + 1) : Nat) : Int) := by rw [Nat.pow_succ]; omega
          have Hn := Lib.hid hnext
          have Hv := Lib.hid hv
          have Hlt := Lib.hid hlt
          have Hpn2 := Lib.hid hpn2
          have h9' : ((j : Int) == 9) = false := by simp; omega
          have h1' : ((x.toNat : Int) == 0) = false := by simp; omega
          have h8' : ¬ (x.toNat : Int) < 128 := by omega
          clear hbad hst H hnext hlt h128 hprod h1 hv hpn2 hqb hpe h19 hp9 hp8 h18
          go_wp2_with fail
          refine ⟨⟨j + 1, q + ((x.toNat : Int) - 128) * p, p * 128, by omega, by go_num, rfl, rfl, by omega, by omega, by omega, ?_, ?_, Hpn2.out⟩, by simp [intOf]; omega⟩
          · rw [Hv.out]
            exact Hlt.out
          · rw [Hv.out]
            exact Hn.out
    · have he : tcR l = (0, 0, 3) := by rw [← H.out.2.2.1, takeC_end (by rw [hln.out]; omega)]
      have He := Lib.hid he
      clear he H
      go_wp2_with fail
      go_ret3
      rw [He.out]
      exact ⟨rfl, rfl⟩

set_option maxHeartbeats 400000 in
theorem RTakeText_any (A : Option Addr) (n c : Nat) (l : List UInt8) (w : World) (h : Rd w 1 A n c (l.map b8)) (hn : n ≤ 1073741824) :
    Calls Try.prog 33 #[.slice A n c] w fun e w' => ∃ A' n' c', e = .returned (.tuple #[.slice A' n' c', .int .i64 (ttR l).2.1, .int .i64 (ttR l).2.2]) ∧ Own w' w.heap.size 5 1 A' n' c' ((ttR l).1.map b8) ∧ Below w.heap.size w w' := by
  have hln := h.lenb
  have hnc := h.le
  have hT := Lib.hid (RTakeCount_any A n c l w h hn)
  obtain ⟨b1, b2, b3, b4, b5, b6⟩ := takeC_bounds l 0 0 (by decide) (by omega)
  change (tcR l).1 ≤ _ at b1
  change (tcR l).2.1 ≤ _ at b2
  change (tcR l).2.2 ≠ 0 → (tcR l).1 = 0 ∧ (tcR l).2.1 = 0 at b3
  change (tcR l).2.2 = 0 → 0 < (tcR l).2.1 at b4
  change 0 ≤ (tcR l).2.2 at b5
  change (tcR l).2.2 ≤ 4 at b6
  obtain ⟨R, htt⟩ : ∃ R, ttR l = R := ⟨_, rfl⟩
  rw [htt]
  unfold ttR at htt
  obtain ⟨V, T, E, hR⟩ : ∃ V T E, tcR l = (V, T, E) := ⟨_, _, _, rfl⟩
  rw [hR] at hT b1 b2 b3 b4 b5 b6 htt
  dsimp only at hT b1 b2 b3 b4 b5 b6 htt
  clear hR b3
  by_cases hE : E ≠ 0
  · rw [if_pos hE] at htt
    have hE' : (E != 0) = true := by simpa using hE
    subst htt
    clear hE b4
    go_enter Try.func33, Try.ntmps33
    go_wp2_with (go_at_call 34; refine hT.out.mono ?_; rintro e w1 ⟨rfl, rfl⟩)
    go_ret3
    exact ⟨_, _, _, rfl, Own.nil_ _ _ _ _, Below.refl _ _⟩
  · rw [if_neg hE] at htt
    have hE0 : E = 0 := by omega
    have hb4 := b4 hE0
    subst hE0
    clear hE b4 b5 b6
    by_cases h1 : 65536 < V
    · rw [if_pos h1] at htt
      subst htt
      go_enter Try.func33, Try.ntmps33
      go_wp2_with (go_at_call 34; refine hT.out.mono ?_; rintro e w1 ⟨rfl, rfl⟩)
      go_ret3
      exact ⟨_, _, _, rfl, Own.nil_ _ _ _ _, Below.refl _ _⟩
    · rw [if_neg h1] at htt
      by_cases h2 : l.length - T < V
      · rw [if_pos h2] at htt
        subst htt
        have h2' : (n : Int) - T < V := by omega
        go_enter Try.func33, Try.ntmps33
        go_wp2_with (go_at_call 34; refine hT.out.mono ?_; rintro e w1 ⟨rfl, rfl⟩)
        go_ret3
        exact ⟨_, _, _, rfl, Own.nil_ _ _ _ _, Below.refl _ _⟩
      · rw [if_neg h2] at htt
        subst htt
        have hsl := run_slice_lh_rd (P := Try.prog) (A := A) (n := n) (c := c) eb (kl := .i64) (kh := .i64) T (T + V) (L := (T : Int)) (H := (T : Int) + (V : Int)) rfl (by omega) (by omega) (by omega)
        have hc := h.cut (lo := T) (hi := T + V) (by omega) (by omega)
        have eN : T + V - T = V := by omega
        rw [eN] at hsl hc
        clear eN
        simp only [Nat.mul_one, ← List.map_drop, ← List.map_take] at hc
        go_enter Try.func33, Try.ntmps33
        go_wp2_with (first
          | (go_at_call 34; refine hT.out.mono ?_; rintro e w1 ⟨rfl, rfl⟩)
          | (at_builtin; refine wpList_app rfl _ _ rfl eb (Own.lit _ w.heap.size [] _ 0 rfl (by decide) (Nat.le_refl _)) rfl (hc.alloc _) rfl (b8_one _) (by omega) (by unfold maxLen; omega) (by simp) ?_; intro A1 c1 w1 ho1 hg1 hb1))
        go_ret3
        refine ⟨A1, _, c1, rfl, ?_, ((Below.refl _ _).alloc (Nat.le_refl _) _).grown hg1 (by simp) (by intro g hg; simp [blk] at hg; omega)⟩
        simpa using ho1

end Go.Proofs.Ytgdbdhfomlkpdaa
