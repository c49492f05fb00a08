/-
  The contracts of the document's answer to octet, more: At, Count, TakeCount, Text, Zig, Zag, Wrap.
-/
import Derived.Test.YtmomebanpobbgaaRefA
namespace Go.Proofs.Ytmomebanpobbgaa
open Go.RowKit

set_option maxHeartbeats 400000 in
theorem RAt_any (A : Option Addr) (n c : Nat) (l : List UInt8) (at' k : Int) (w : World) (h : Rd w 1 A n c (l.map b8)) (hn : n ≤ 1073741824) (hat : at' ≤ 9223372036854775807) :
    Calls Try.prog 32 #[.slice A n c, .int .i64 at', .int .i64 k] w fun e w' => e = .returned (.tuple #[.int .u64 (atR l at' k).1, .int .i64 (atR l at' k).2]) ∧ w = w' := by
  have hln := h.lenb
  by_cases hk : k < 1 ∨ 8 < k ∨ at' < 0
  · have e : atR l at' k = (0, 1) := if_pos hk
    rw [e]
    have hk' : k < 1 ∨ (1 ≤ k ∧ 8 < k) ∨ (1 ≤ k ∧ k ≤ 8 ∧ at' < 0) := by omega
    clear hk hln
    rcases hk' with hk | ⟨hk1, hk⟩ | ⟨hk1, hk8, hk⟩
    all_goals
      go_enter Try.func32, Try.ntmps32
      go_wp2_with fail
      go_ret2
      exact ⟨rfl, rfl⟩
  have hk1 : 1 ≤ k := by omega
  have hk8 : k ≤ 8 := by omega
  have hk0 : 0 ≤ at' := by omega
  by_cases hs : (n : Int) - k < at'
  · have e : atR l at' k = (0, 3) := by unfold atR; rw [if_neg hk, if_pos (by rw [hln]; exact hs)]
    rw [e]
    clear hk hln
    by_cases ha : (n : Int) < at'
    all_goals
      go_enter Try.func32, Try.ntmps32
      go_wp2_with fail
      go_ret2
      exact ⟨rfl, rfl⟩
  have e : atR l at' k = (((beN ((l.drop at'.toNat).take k.toNat) : Nat) : Int), 0) := by unfold atR; rw [if_neg hk, if_neg (by rw [hln]; exact hs)]
  rw [e]
  have hs' : at' ≤ n - k := by omega
  clear hk hs e
  obtain ⟨K, rfl⟩ := Int.eq_ofNat_of_zero_le (show 0 ≤ k by omega)
  obtain ⟨T, rfl⟩ := Int.eq_ofNat_of_zero_le hk0
  simp only [Int.toNat_natCast]
  have hbs : ∀ j x, j < K → l[T + j]? = some x → ((l.drop T).take K)[j]? = some x := by
    intro j x hj hx
    rw [List.getElem?_take, if_pos hj, List.getElem?_drop]
    exact hx
  have hbl : ((l.drop T).take K).length = K := by rw [List.length_take, List.length_drop]; omega
  generalize (l.drop T).take K = bs at *
  have Hbs := Lib.hid hbs
  have Hbl := Lib.hid hbl
  have Hln := Lib.hid hln
  clear hbs hbl hln
  go_enter Try.func32, Try.ntmps32
  go_wp2_with fail
  go_loop [8, 9] (fun v i => ∃ (j : Nat) (q : Int), j ≤ K ∧ i = .int .i64 j ∧ v = .int .u64 q ∧ Hid (q = (beN (bs.take j) : Nat))) (fun _ i => K - (intOf i).toNat)
  case atStart => exact ⟨0, 0, by omega, rfl, rfl, rfl⟩
  case round =>
    obtain ⟨j, q, hj, rfl, rfl, hq⟩ := hrel
    have hq0 : 0 ≤ q := by rw [hq.out]; omega
    by_cases hjn : j < K
    · obtain ⟨x, hx, hidx, hcell, hxb⟩ := h.byteAt eb ((T : Int) + (j : Int)) (T + j) (by omega) (by omega)
      have hq1 : q < 72057594037927936 := by rw [hq.out]; have := beN_take_lt bs j (by omega); omega
      have hx0 : (0 : Int) ≤ (x.toNat : Int) := by omega
      go_wp2_with fail
      refine ⟨⟨j + 1, q * 256 + x.toNat, by omega, by go_num, by go_num, ?_⟩, by simp [intOf]; omega⟩
      show _ = _
      rw [take_snoc (Hbs.out j x hjn hx.out), beN_snoc, hq.out]
      omega
    · have e : j = K := by omega
      subst e
      have hb : bs.length = j := Hbl.out
      go_wp2_with fail
      go_ret2
      refine ⟨?_, rfl⟩
      have e2 : q = (beN bs : Nat) := by rw [hq.out, List.take_of_length_le (by omega)]
      subst e2
      rfl

set_option maxHeartbeats 400000 in
theorem RCount_any (A : Option Addr) (n c : Nat) (l : List UInt8) (v : Int) (w : World) (h : Rd w 1 A n c (l.map b8)) (hn : n ≤ 1073741824) (hv0 : 0 ≤ v) (hv : v ≤ 18446744073709551615) :
    Calls Try.prog 24 #[.slice A n c, .int .u64 v] w fun e w' => ∃ A' n' c', e = .returned (.slice A' n' c') ∧ Own w' w.heap.size 5 1 A' n' c' ((l ++ countB v.toNat).map b8) ∧ Below w.heap.size w w' := by
  go_enter Try.func24, Try.ntmps24
  go_wp2_with (at_builtin; refine wpList_app rfl _ _ rfl eb (Own.lit w w.heap.size [] _ 0 rfl (by decide) (Nat.le_refl _)) rfl (h.alloc _) rfl (b8_one _) (by omega) (by unfold maxLen; omega) (by simp) ?_; intro A1 c1 w1 ho1 hg1 hb1)
  simp only [Nat.zero_add, List.nil_append] at ho1
  have hb0 : Below w.heap.size w w1 := ((Below.refl _ _).alloc (Nat.le_refl _) _).grown hg1 (by simp) (by intro g hg; simp [blk] at hg; omega)
  have hB := hb0.size
  go_loopw [5, 1] (fun s x wr => ∃ (q : Int) (A' : Option Addr) (n' c' : Nat) (pre : List UInt8), 0 ≤ q ∧ q ≤ 18446744073709551615 ∧ x = .int .u64 q ∧ s = .slice A' n' c' ∧ Own wr w.heap.size 5 1 A' n' c' ((l ++ pre).map b8) ∧ Below w.heap.size w wr ∧ pre.length ≤ 9 ∧ Hid (pre ++ countB q.toNat = countB v.toNat ∧ q.toNat * 128 ^ pre.length ≤ v.toNat)) (fun _ x _ => (intOf x).toNat)
  case atStart => exact ⟨v, A1, n, c1, [], hv0, hv, rfl, rfl, by simpa using ho1, hb0, by simp, by simp, by simp⟩
  case round =>
    obtain ⟨q, A', n', c', pre, hq0, hq1, rfl, rfl, ho, hb, hp9, hH⟩ := hrel
    have hlen := ho.lenb
    rw [List.length_append] at hlen
    have hlh := h.lenb
    by_cases hq : 127 < q
    · have hp8 := count_len q.toNat v.toNat pre.length hH.out.2 (by omega) (by omega)
      go_wp2_with (at_builtin; refine wpList_app rfl _ _ rfl eb (ho.alloc _) rfl (Rd.lit _ [_] _ 1 rfl (by decide)) rfl (by simp [Value.oneCell']) (by omega) (by unfold maxLen; omega) (by simp; have := hb.size; omega) ?_; intro A2 c2 w2 ho2 hg2 hb2)
      go_roundw
      case rel =>
        have hby : Value.int .u8 (q % 128 + 128) = b8 (UInt8.ofNat (q.toNat % 128 + 128)) := by
          rw [b8_ofNat]
          congr 1
          omega
        rw [hby] at ho2
        refine ⟨q / 128, A2, _, c2, pre ++ [UInt8.ofNat (q.toNat % 128 + 128)], by omega, by omega, rfl, rfl, ?_, below_app hb (Nat.le_refl _) ho hg2, by simp; omega, ?_, ?_⟩
        · simpa only [List.map_append, List.append_assoc, List.map_cons, List.map_nil] using ho2
        · have e : (q / 128).toNat = q.toNat / 128 := by omega
          rw [e, List.append_assoc, List.singleton_append, ← countB_big q.toNat (by omega)]
          exact hH.out.1
        · have e : (q / 128).toNat = q.toNat / 128 := by omega
          rw [e, List.length_append, List.length_singleton]
          exact count_next _ _ _ hH.out.2
      case measure => simp [intOf]; omega
    · go_wp2_with (at_builtin; refine wpList_app rfl _ _ rfl eb (ho.alloc _) rfl (Rd.lit _ [_] _ 1 rfl (by decide)) rfl (by simp [Value.oneCell']) (by omega) (by unfold maxLen; omega) (by simp; have := hb.size; omega) ?_; intro A2 c2 w2 ho2 hg2 hb2)
      go_ret
      rw [small_byte q hq0 (by omega)] at ho2
      refine ⟨A2, _, c2, rfl, ?_, below_app hb (Nat.le_refl _) ho hg2⟩
      have e := hH.out.1
      rw [countB_small q.toNat (by omega)] at e
      rw [← e]
      simpa only [List.map_append, List.append_assoc, List.map_cons, List.map_nil] using ho2

set_option maxHeartbeats 400000 in
theorem RText_any (A : Option Addr) (n c : Nat) (l : List UInt8) (A2 : Option Addr) (n2 c2 : Nat) (s : List UInt8) (w : World) (h : Rd w 1 A n c (l.map b8)) (hs : Rd w 1 A2 n2 c2 (s.map b8)) (hn : n ≤ 1073741824) (hn2 : n2 ≤ 1073741824) :
    Calls Try.prog 23 #[.slice A n c, .slice A2 n2 c2] w fun e w' => ∃ A' n' c', e = .returned (.tuple #[.slice A' n' c', .int .i64 (textR l s).2]) ∧ Own w' w.heap.size 5 1 A' n' c' ((textR l s).1.map b8) ∧ Below w.heap.size w w' := by
  have hls := hs.lenb
  by_cases hb : 65536 < n2
  · have e : textR l s = ([], 2) := if_pos (by omega)
    rw [e]
    go_enter Try.func23, Try.ntmps23
    go_wp2_with fail
    go_ret2
    exact ⟨_, _, _, rfl, Own.nil_ _ _ _ _, Below.refl _ _⟩
  · have e : textR l s = (l ++ countB n2 ++ s, 0) := by unfold textR; rw [if_neg (by omega), hls]
    rw [e]
    clear e hls
    have h5 : (128 : Nat) ^ 5 = 34359738368 := by decide
    have hl2 := countB_length 4 n2 (by omega)
    have hl0 := h.lenb
    clear h5
    go_enter Try.func23, Try.ntmps23
    go_wp2_with (first
      | (go_at_call 24; refine (RCount_any A n c l n2 _ h hn (by omega) (by omega)).mono ?_; rintro e w1 ⟨A1, n1, c1, rfl, ho1, hb1⟩; rw [Int.toNat_natCast] at ho1; have hl1 := ho1.lenb; rw [List.length_append] at hl1)
      | (at_builtin; refine wpList_app rfl _ _ rfl eb ho1 rfl (hs.below hb1) rfl (b8_one _) (by omega) (by unfold maxLen; omega) hb1.size ?_; intro A3 c3 w3 ho3 hg3 hb3))
    go_ret2
    refine ⟨A3, _, c3, rfl, ?_, below_apps hb1 (Nat.le_refl _) ho1 hg3⟩
    simpa using ho3

theorem RZig_any (v : Int) (w : World) (h0 : -9223372036854775808 ≤ v) (h1 : v ≤ 9223372036854775807) :
    Calls Try.prog 15 #[.int .i64 v] w fun e w' => e = .returned (.int .u64 (zigI v)) ∧ w = w' := by
  by_cases h : v < 0
  · have hz := Lib.hid (show zigI v = _ from if_pos h)
    go_enter Try.func15, Try.ntmps15
    go_wp2_with fail
    go_ret
    exact ⟨by rw [hz.out]; rfl, rfl⟩
  · have hz := Lib.hid (show zigI v = _ from if_neg h)
    go_enter Try.func15, Try.ntmps15
    go_wp2_with fail
    go_ret
    exact ⟨by rw [hz.out]; rfl, rfl⟩
theorem RZag_any (v : Int) (w : World) (h0 : 0 ≤ v) (h1 : v ≤ 18446744073709551615) :
    Calls Try.prog 17 #[.int .u64 v] w fun e w' => e = .returned (.int .i64 (zagI v)) ∧ w = w' := by
  by_cases h : v % 2 = 1
  · have hz := Lib.hid (show zagI v = _ from if_pos h)
    have h' : (v % 2 == 1) = true := by simpa using h
    clear h
    go_enter Try.func17, Try.ntmps17
    go_wp2_with fail
    go_ret
    exact ⟨by rw [hz.out]; rfl, rfl⟩
  · have hz := Lib.hid (show zagI v = _ from if_neg h)
    have h' : (v % 2 == 1) = false := by simpa using h
    clear h
    go_enter Try.func17, Try.ntmps17
    go_wp2_with fail
    go_ret
    exact ⟨by rw [hz.out]; rfl, rfl⟩

end Go.Proofs.Ytmomebanpobbgaa
