/-
  The contracts of the document's answer to octet, more: At, Count, TakeCount, Text, Zig, Zag, Wrap.
-/
import Derived.Test.YtebnmpgoiedicaaRefA
namespace Go.Proofs.Ytebnmpgoiedicaa
open Go.RowKit

set_option maxHeartbeats 400000 in
theorem RAt_any (A : Option Addr) (n c : Nat) (l : List UInt8) (at' k : Int) (w : World) (h : Rd w 1 A n c (l.map b8)) (hn : n ≤ 1073741824) (hat : at' ≤ 9223372036854775807) :
    Calls Try.prog 22 #[.slice A n c, .int .i64 at', .int .i64 k] w fun e w' => e = .returned (.tuple #[.int .u64 (atR l at' k).1, .int .i64 (atR l at' k).2]) ∧ w = w' := by
  have hln := h.lenb
  by_cases hk : k < 1 ∨ 8 < k ∨ at' < 0
  · have e : atR l at' k = (0, 1) := if_pos hk
    rw [e]
    have hk' : k < 1 ∨ (1 ≤ k ∧ 8 < k) ∨ (1 ≤ k ∧ k ≤ 8 ∧ at' < 0) := by omega
    clear hk hln
    rcases hk' with hk | ⟨hk1, hk⟩ | ⟨hk1, hk8, hk⟩
    all_goals
      go_enter Try.func22, Try.ntmps22
      go_wp2_with fail
      go_ret2
      exact ⟨rfl, rfl⟩
  have hk1 : 1 ≤ k := by omega
  have hk8 : k ≤ 8 := by omega
  have hk0 : 0 ≤ at' := by omega
  by_cases hs : (n : Int) - k < at'
  · have e : atR l at' k = (0, 3) := by unfold atR; rw [if_neg hk, if_pos (by rw [hln]; exact hs)]
    rw [e]
    clear hk hln
    by_cases ha : (n : Int) < at'
    all_goals
      go_enter Try.func22, Try.ntmps22
      go_wp2_with fail
      go_ret2
      exact ⟨rfl, rfl⟩
  have e : atR l at' k = (((beN ((l.drop at'.toNat).take k.toNat) : Nat) : Int), 0) := by unfold atR; rw [if_neg hk, if_neg (by rw [hln]; exact hs)]
  rw [e]
  have hs' : at' ≤ n - k := by omega
  clear hk hs e
  obtain ⟨K, rfl⟩ := Int.eq_ofNat_of_zero_le (show 0 ≤ k by omega)
  obtain ⟨T, rfl⟩ := Int.eq_ofNat_of_zero_le hk0
  simp only [Int.toNat_natCast]
  have hbs : ∀ j x, j < K → l[T + j]? = some x → ((l.drop T).take K)[j]? = some x := by
    intro j x hj hx
    rw [List.getElem?_take, if_pos hj, List.getElem?_drop]
    exact hx
  have hbl : ((l.drop T).take K).length = K := by rw [List.length_take, List.length_drop]; omega
  generalize (l.drop T).take K = bs at *
  have Hbs := Lib.hid hbs
  have Hbl := Lib.hid hbl
  have Hln := Lib.hid hln
  clear hbs hbl hln
  go_enter Try.func22, Try.ntmps22
  go_wp2_with fail
  go_loop [8, 9] (fun v i => ∃ (j : Nat) (q : Int), j ≤ K ∧ i = .int .i64 j ∧ v = .int .u64 q ∧ Hid (q = (beN (bs.take j) : Nat))) (fun _ i => K - (intOf i).toNat)
  case atStart => exact ⟨0, 0, by omega, rfl, rfl, rfl⟩
  case round =>
    obtain ⟨j, q, hj, rfl, rfl, hq⟩ := hrel
    have hq0 : 0 ≤ q := by rw [hq.out]; omega
    by_cases hjn : j < K
    · obtain ⟨x, hx, hidx, hcell, hxb⟩ := h.byteAt eb ((T : Int) + (j : Int)) (T + j) (by omega) (by omega)
      have hq1 : q < 72057594037927936 := by rw [hq.out]; have := beN_take_lt bs j (by omega); omega
      have hx0 : (0 : Int) ≤ (x.toNat : Int) := by omega
      go_wp2_with fail
      refine ⟨⟨j + 1, q * 256 + x.toNat, by omega, by go_num, by go_num, ?_⟩, by simp [intOf]; omega⟩
      show _ = _
      rw [take_snoc (Hbs.out j x hjn hx.out), beN_snoc, hq.out]
      omega
    · have e : j = K := by omega
      subst e
      have hb : bs.length = j := Hbl.out
      go_wp2_with fail
      go_ret2
      refine ⟨?_, rfl⟩
      have e2 : q = (beN bs : Nat) := by rw [hq.out, List.take_of_length_le (by omega)]
      subst e2
      rfl

end Go.Proofs.Ytebnmpgoiedicaa
