/-
  The contracts of package octet, the rest: Count, Text, TakeText, Bit, SetBit.
-/
import Derived.Test.YtgdbdhfomlkpdaaOct2
namespace Go.Proofs.Ytgdbdhfomlkpdaa
open Go.RowKit

set_option maxHeartbeats 400000 in
theorem Count_any (A : Option Addr) (n c : Nat) (l : List UInt8) (v : Int) (w : World) (h : Rd w 1 A n c (l.map b8)) (hn : n ≤ 1073741824) (hv0 : 0 ≤ v) (hv : v ≤ 18446744073709551615) :
    Calls Try.prog 26 #[.slice A n c, .int .u64 v] w fun e w' => ∃ A' n' c', e = .returned (.slice A' n' c') ∧ Own w' w.heap.size 5 1 A' n' c' ((l ++ countB v.toNat).map b8) ∧ Below w.heap.size w w' := by
  go_enter Try.func26, Try.ntmps26
  go_wp2_with (go_at_call 38; refine (own_any A n c l 10 _ h hn (by omega) (by omega)).mono ?_; rintro e w1 ⟨A1, c1, rfl, ho1, hb1⟩)
  have hB := hb1.size
  go_loopw [1, 5] (fun x s wr => ∃ (q : Int) (A' : Option Addr) (n' c' : Nat) (pre : List UInt8), 0 ≤ q ∧ q ≤ 18446744073709551615 ∧ x = .int .u64 q ∧ s = .slice A' n' c' ∧ Own wr w.heap.size 5 1 A' n' c' ((l ++ pre).map b8) ∧ Below w.heap.size w wr ∧ pre.length ≤ 9 ∧ Hid (pre ++ countB q.toNat = countB v.toNat ∧ q.toNat * 128 ^ pre.length ≤ v.toNat)) (fun x _ _ => (intOf x).toNat)
  case atStart => exact ⟨v, A1, n, c1, [], hv0, hv, rfl, rfl, by simpa using ho1, hb1, by simp, by simp, by simp⟩
  case round =>
    obtain ⟨q, A', n', c', pre, hq0, hq1, rfl, rfl, ho, hb, hp9, hH⟩ := hrel
    have hlen := ho.lenb
    rw [List.length_append] at hlen
    have hlh := h.lenb
    by_cases hq : 127 < q
    · have hp8 := count_len q.toNat v.toNat pre.length hH.out.2 (by omega) (by omega)
      go_wp2_with (at_builtin; refine wpList_app rfl _ _ rfl eb (ho.alloc _) rfl (Rd.lit _ [_] _ 1 rfl (by decide)) rfl (by simp [Value.oneCell']) (by omega) (by unfold maxLen; omega) (by simp; have := hb.size; omega) ?_; intro A2 c2 w2 ho2 hg2 hb2)
      go_roundw
      case rel =>
        rw [count_byte q hq0] at ho2
        refine ⟨q / 128, A2, _, c2, pre ++ [UInt8.ofNat (q.toNat % 128 + 128)], by omega, by omega, rfl, rfl, ?_, below_app hb (Nat.le_refl _) ho hg2, by simp; omega, ?_, ?_⟩
        · simpa only [List.map_append, List.append_assoc, List.map_cons, List.map_nil] using ho2
        · have e : (q / 128).toNat = q.toNat / 128 := by omega
          rw [e, List.append_assoc, List.singleton_append, ← countB_big q.toNat (by omega)]
          exact hH.out.1
        · have e : (q / 128).toNat = q.toNat / 128 := by omega
          rw [e, List.length_append, List.length_singleton]
          exact count_next _ _ _ hH.out.2
      case measure => simp [intOf]; omega
    · go_wp2_with (at_builtin; refine wpList_app rfl _ _ rfl eb (ho.alloc _) rfl (Rd.lit _ [_] _ 1 rfl (by decide)) rfl (by simp [Value.oneCell']) (by omega) (by unfold maxLen; omega) (by simp; have := hb.size; omega) ?_; intro A2 c2 w2 ho2 hg2 hb2)
      go_ret
      rw [small_byte q hq0 (by omega)] at ho2
      refine ⟨A2, _, c2, rfl, ?_, below_app hb (Nat.le_refl _) ho hg2⟩
      have e := hH.out.1
      rw [countB_small q.toNat (by omega)] at e
      rw [← e]
      simpa only [List.map_append, List.append_assoc, List.map_cons, List.map_nil] using ho2

/-- What Text(b, s) hands back. -/
def textR (l s : List UInt8) : List UInt8 × Int := if 65536 < s.length then ([], 2) else (l ++ countB s.length ++ s, 0)

set_option maxHeartbeats 400000 in
theorem Text_any (A : Option Addr) (n c : Nat) (l : List UInt8) (A2 : Option Addr) (n2 c2 : Nat) (s : List UInt8) (w : World) (h : Rd w 1 A n c (l.map b8)) (hs : Rd w 1 A2 n2 c2 (s.map b8)) (hn : n ≤ 1073741824) (hn2 : n2 ≤ 1073741824) :
    Calls Try.prog 27 #[.slice A n c, .slice A2 n2 c2] w fun e w' => ∃ A' n' c', e = .returned (.tuple #[.slice A' n' c', .int .i64 (textR l s).2]) ∧ Own w' w.heap.size 5 1 A' n' c' ((textR l s).1.map b8) ∧ Below w.heap.size w w' := by
  have hls := hs.lenb
  by_cases hb : 65536 < n2
  · have e : textR l s = ([], 2) := if_pos (by omega)
    rw [e]
    go_enter Try.func27, Try.ntmps27
    go_wp2_with fail
    go_ret2
    exact ⟨_, _, _, rfl, Own.nil_ _ _ _ _, Below.refl _ _⟩
  · have e : textR l s = (l ++ countB n2 ++ s, 0) := by unfold textR; rw [if_neg (by omega), hls]
    rw [e]
    clear e hls
    have h5 : (128 : Nat) ^ 5 = 34359738368 := by decide
    have hl2 := countB_length 4 n2 (by omega)
    have hl0 := h.lenb
    clear h5
    go_enter Try.func27, Try.ntmps27
    go_wp2_with (first
      | (go_at_call 26; refine (Count_any A n c l n2 _ h hn (by omega) (by omega)).mono ?_; rintro e w1 ⟨A1, n1, c1, rfl, ho1, hb1⟩; rw [Int.toNat_natCast] at ho1; have hl1 := ho1.lenb; rw [List.length_append] at hl1)
      | (at_builtin; refine wpList_app rfl _ _ rfl eb ho1 rfl (hs.below hb1) rfl (b8_one _) (by omega) (by unfold maxLen; omega) hb1.size ?_; intro A3 c3 w3 ho3 hg3 hb3))
    go_ret2
    refine ⟨A3, _, c3, rfl, ?_, below_apps hb1 (Nat.le_refl _) ho1 hg3⟩
    simpa using ho3

/-- What TakeText(b) hands back. -/
def ttR (l : List UInt8) : List UInt8 × Nat × Int :=
  if (tcR l).2.2 ≠ 0 then ([], 0, (tcR l).2.2) else if 65536 < (tcR l).1 then ([], 0, 2) else if l.length - (tcR l).2.1 < (tcR l).1 then ([], 0, 3)
  else ((l.drop (tcR l).2.1).take (tcR l).1, (tcR l).2.1 + (tcR l).1, 0)

set_option maxHeartbeats 400000 in
theorem TakeText_any (A : Option Addr) (n c : Nat) (l : List UInt8) (w : World) (h : Rd w 1 A n c (l.map b8)) (hn : n ≤ 1073741824) :
    Calls Try.prog 40 #[.slice A n c] w fun e w' => ∃ A' n' c', e = .returned (.tuple #[.slice A' n' c', .int .i64 (ttR l).2.1, .int .i64 (ttR l).2.2]) ∧ Own w' w.heap.size 5 1 A' n' c' ((ttR l).1.map b8) ∧ Below w.heap.size w w' := by
  have hln := h.lenb
  have hnc := h.le
  have hT := Lib.hid (TakeCount_any A n c l w h hn)
  obtain ⟨b1, b2, b3, b4, b5, b6⟩ := takeC_bounds l 0 0 (by decide) (by omega)
  change (tcR l).1 ≤ _ at b1
  change (tcR l).2.1 ≤ _ at b2
  change (tcR l).2.2 ≠ 0 → (tcR l).1 = 0 ∧ (tcR l).2.1 = 0 at b3
  change (tcR l).2.2 = 0 → 0 < (tcR l).2.1 at b4
  change 0 ≤ (tcR l).2.2 at b5
  change (tcR l).2.2 ≤ 4 at b6
  obtain ⟨R, htt⟩ : ∃ R, ttR l = R := ⟨_, rfl⟩
  rw [htt]
  unfold ttR at htt
  obtain ⟨V, T, E, hR⟩ : ∃ V T E, tcR l = (V, T, E) := ⟨_, _, _, rfl⟩
  rw [hR] at hT b1 b2 b3 b4 b5 b6 htt
  dsimp only at hT b1 b2 b3 b4 b5 b6 htt
  clear hR b3
  by_cases hE : E ≠ 0
  · rw [if_pos hE] at htt
    have hE' : (E != 0) = true := by simpa using hE
    subst htt
    clear hE b4
    go_enter Try.func40, Try.ntmps40
    go_wp2_with (go_at_call 31; refine hT.out.mono ?_; rintro e w1 ⟨rfl, rfl⟩)
    go_ret3
    exact ⟨_, _, _, rfl, Own.nil_ _ _ _ _, Below.refl _ _⟩
  · rw [if_neg hE] at htt
    have hE0 : E = 0 := by omega
    have hb4 := b4 hE0
    subst hE0
    clear hE b4 b5 b6
    by_cases h1 : 65536 < V
    · rw [if_pos h1] at htt
      subst htt
      go_enter Try.func40, Try.ntmps40
      go_wp2_with (go_at_call 31; refine hT.out.mono ?_; rintro e w1 ⟨rfl, rfl⟩)
      go_ret3
      exact ⟨_, _, _, rfl, Own.nil_ _ _ _ _, Below.refl _ _⟩
    · rw [if_neg h1] at htt
      by_cases h2 : l.length - T < V
      · rw [if_pos h2] at htt
        subst htt
        have h2' : (n : Int) - T < V := by omega
        go_enter Try.func40, Try.ntmps40
        go_wp2_with (go_at_call 31; refine hT.out.mono ?_; rintro e w1 ⟨rfl, rfl⟩)
        go_ret3
        exact ⟨_, _, _, rfl, Own.nil_ _ _ _ _, Below.refl _ _⟩
      · rw [if_neg h2] at htt
        subst htt
        have hsl := run_slice_lh_rd (P := Try.prog) (A := A) (n := n) (c := c) eb (kl := .i64) (kh := .i64) T (T + V) (L := (T : Int)) (H := (T : Int) + (V : Int)) rfl (by omega) (by omega) (by omega)
        have hc := h.cut (lo := T) (hi := T + V) (by omega) (by omega)
        have eN : T + V - T = V := by omega
        rw [eN] at hsl hc
        clear eN
        simp only [Nat.mul_one, ← List.map_drop, ← List.map_take] at hc
        go_enter Try.func40, Try.ntmps40
        go_wp2_with (first
          | (go_at_call 31; refine hT.out.mono ?_; rintro e w1 ⟨rfl, rfl⟩)
          | (go_at_call 38; refine (own_any _ V _ _ 0 _ hc (by omega) (by omega) (by omega)).mono ?_; rintro e w1 ⟨A1, c1, rfl, ho1, hb1⟩))
        go_ret3
        exact ⟨_, _, _, rfl, ho1, hb1⟩

/-- What Bit(b, k) and SetBit(b, k, on) hand back. -/
def bitR (l : List UInt8) (k : Int) : Bool × Int := if k < 0 ∨ (l.length : Int) ≤ k / 8 then (false, 1) else ((l.getD (k / 8).toNat 0).toNat / 2 ^ (k % 8).toNat % 2 == 1, 0)
def setBitR (l : List UInt8) (k : Int) (on : Bool) : List UInt8 × Int := if k < 0 ∨ (l.length : Int) ≤ k / 8 then ([], 1) else (l.set (k / 8).toNat (setBitB (l.getD (k / 8).toNat 0) (k % 8).toNat on), 0)

theorem getD_of {l : List UInt8} {k : Nat} {x : UInt8} (h : l[k]? = some x) : l.getD k 0 = x := by simp [List.getD, h]

theorem bit_val (x : UInt8) (j : Nat) : (bits .and .u8 ((x.toNat : Int) / 2 ^ j) 1 == 1) = (x.toNat / 2 ^ j % 2 == 1) := by
  have e : (x.toNat : Int) / 2 ^ j = ((x.toNat / 2 ^ j : Nat) : Int) := by rw [Int.natCast_ediv, Int.natCast_pow]; rfl
  have hx := x.toNat_lt
  have hd : x.toNat / 2 ^ j ≤ x.toNat := Nat.div_le_self _ _
  rw [e]
  generalize x.toNat / 2 ^ j = y at *
  rw [u8_and1 _ (by omega) (by omega)]
  rw [Bool.eq_iff_iff]
  simp only [beq_iff_eq]
  omega

theorem map_set_b8 (l : List UInt8) (k : Nat) (x : UInt8) : (l.map b8).set k (.int .u8 (x.toNat : Int)) = (l.set k x).map b8 := by rw [List.map_set]; rfl
end Go.Proofs.Ytgdbdhfomlkpdaa
