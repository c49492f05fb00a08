/-
  The contracts of the document's answer to octet, more: At, Count, TakeCount, Text, Zig, Zag, Wrap.
-/
import Derived.Test.YtgdbdhfomlkpdaaRefA
namespace Go.Proofs.Ytgdbdhfomlkpdaa
open Go.RowKit

set_option maxHeartbeats 400000 in
theorem RCount_any (A : Option Addr) (n c : Nat) (l : List UInt8) (v : Int) (w : World) (h : Rd w 1 A n c (l.map b8)) (hn : n ≤ 1073741824) (hv0 : 0 ≤ v) (hv : v ≤ 18446744073709551615) :
    Calls Try.prog 28 #[.slice A n c, .int .u64 v] w fun e w' => ∃ A' n' c', e = .returned (.slice A' n' c') ∧ Own w' w.heap.size 5 1 A' n' c' ((l ++ countB v.toNat).map b8) ∧ Below w.heap.size w w' := by
  go_enter Try.func28, Try.ntmps28
  go_wp2_with (at_builtin; refine wpList_app rfl _ _ rfl eb (Own.lit w w.heap.size [] _ 0 rfl (by decide) (Nat.le_refl _)) rfl (h.alloc _) rfl (b8_one _) (by omega) (by unfold maxLen; omega) (by simp) ?_; intro A1 c1 w1 ho1 hg1 hb1)
  simp only [Nat.zero_add, List.nil_append] at ho1
  have hb0 : Below w.heap.size w w1 := ((Below.refl _ _).alloc (Nat.le_refl _) _).grown hg1 (by simp) (by intro g hg; simp [blk] at hg; omega)
  have hB := hb0.size
  go_loopw [5, 1] (fun s x wr => ∃ (q : Int) (A' : Option Addr) (n' c' : Nat) (pre : List UInt8), 0 ≤ q ∧ q ≤ 18446744073709551615 ∧ x = .int .u64 q ∧ s = .slice A' n' c' ∧ Own wr w.heap.size 5 1 A' n' c' ((l ++ pre).map b8) ∧ Below w.heap.size w wr ∧ pre.length ≤ 9 ∧ Hid (pre ++ countB q.toNat = countB v.toNat ∧ q.toNat * 128 ^ pre.length ≤ v.toNat)) (fun _ x _ => (intOf x).toNat)
  case atStart => exact ⟨v, A1, n, c1, [], hv0, hv, rfl, rfl, by simpa using ho1, hb0, by simp, by simp, by simp⟩
  case round =>
    obtain ⟨q, A', n', c', pre, hq0, hq1, rfl, rfl, ho, hb, hp9, hH⟩ := hrel
    have hlen := ho.lenb
    rw [List.length_append] at hlen
    have hlh := h.lenb
    by_cases hq : 127 < q
    · have hp8 := count_len q.toNat v.toNat pre.length hH.out.2 (by omega) (by omega)
      go_wp2_with (at_builtin; refine wpList_app rfl _ _ rfl eb (ho.alloc _) rfl (Rd.lit _ [_] _ 1 rfl (by decide)) rfl (by simp [Value.oneCell']) (by omega) (by unfold maxLen; omega) (by simp; have := hb.size; omega) ?_; intro A2 c2 w2 ho2 hg2 hb2)
      go_roundw
      case rel =>
        have hby : Value.int .u8 (q % 128 + 128) = b8 (UInt8.ofNat (q.toNat % 128 + 128)) := by
          rw [b8_ofNat]
          congr 1
          omega
        rw [hby] at ho2
        refine ⟨q / 128, A2, _, c2, pre ++ [UInt8.ofNat (q.toNat % 128 + 128)], by omega, by omega, rfl, rfl, ?_, below_app hb (Nat.le_refl _) ho hg2, by simp; omega, ?_, ?_⟩
        · simpa only [List.map_append, List.append_assoc, List.map_cons, List.map_nil] using ho2
        · have e : (q / 128).toNat = q.toNat / 128 := by omega
          rw [e, List.append_assoc, List.singleton_append, ← countB_big q.toNat (by omega)]
          exact hH.out.1
        · have e : (q / 128).toNat = q.toNat / 128 := by omega
          rw [e, List.length_append, List.length_singleton]
          exact count_next _ _ _ hH.out.2
      case measure => simp [intOf]; omega
    · go_wp2_with (at_builtin; refine wpList_app rfl _ _ rfl eb (ho.alloc _) rfl (Rd.lit _ [_] _ 1 rfl (by decide)) rfl (by simp [Value.oneCell']) (by omega) (by unfold maxLen; omega) (by simp; have := hb.size; omega) ?_; intro A2 c2 w2 ho2 hg2 hb2)
      go_ret
      rw [small_byte q hq0 (by omega)] at ho2
      refine ⟨A2, _, c2, rfl, ?_, below_app hb (Nat.le_refl _) ho hg2⟩
      have e := hH.out.1
      rw [countB_small q.toNat (by omega)] at e
      rw [← e]
      simpa only [List.map_append, List.append_assoc, List.map_cons, List.map_nil] using ho2

set_option maxHeartbeats 400000 in
theorem RText_any (A : Option Addr) (n c : Nat) (l : List UInt8) (A2 : Option Addr) (n2 c2 : Nat) (s : List UInt8) (w : World) (h : Rd w 1 A n c (l.map b8)) (hs : Rd w 1 A2 n2 c2 (s.map b8)) (hn : n ≤ 1073741824) (hn2 : n2 ≤ 1073741824) :
    Calls Try.prog 29 #[.slice A n c, .slice A2 n2 c2] w fun e w' => ∃ A' n' c', e = .returned (.tuple #[.slice A' n' c', .int .i64 (textR l s).2]) ∧ Own w' w.heap.size 5 1 A' n' c' ((textR l s).1.map b8) ∧ Below w.heap.size w w' := by
  have hls := hs.lenb
  by_cases hb : 65536 < n2
  · have e : textR l s = ([], 2) := if_pos (by omega)
    rw [e]
    go_enter Try.func29, Try.ntmps29
    go_wp2_with fail
    go_ret2
    exact ⟨_, _, _, rfl, Own.nil_ _ _ _ _, Below.refl _ _⟩
  · have e : textR l s = (l ++ countB n2 ++ s, 0) := by unfold textR; rw [if_neg (by omega), hls]
    rw [e]
    clear e hls
    have h5 : (128 : Nat) ^ 5 = 34359738368 := by decide
    have hl2 := countB_length 4 n2 (by omega)
    have hl0 := h.lenb
    clear h5
    go_enter Try.func29, Try.ntmps29
    go_wp2_with (first
      | (go_at_call 28; refine (RCount_any A n c l n2 _ h hn (by omega) (by omega)).mono ?_; rintro e w1 ⟨A1, n1, c1, rfl, ho1, hb1⟩; rw [Int.toNat_natCast] at ho1; have hl1 := ho1.lenb; rw [List.length_append] at hl1)
      | (at_builtin; refine wpList_app rfl _ _ rfl eb ho1 rfl (hs.below hb1) rfl (b8_one _) (by omega) (by unfold maxLen; omega) hb1.size ?_; intro A3 c3 w3 ho3 hg3 hb3))
    go_ret2
    refine ⟨A3, _, c3, rfl, ?_, below_apps hb1 (Nat.le_refl _) ho1 hg3⟩
    simpa using ho3

end Go.Proofs.Ytgdbdhfomlkpdaa
