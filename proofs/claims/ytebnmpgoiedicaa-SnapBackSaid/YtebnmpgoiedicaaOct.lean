/-
  The contracts of package octet: what each of its functions does to bytes, as plain functions on lists of bytes.
-/
import Derived.Test.YtebnmpgoiedicaaElem
namespace Go.Proofs.Ytebnmpgoiedicaa
open Go.RowKit

/-- own(b, n): a copy of b. -/
theorem own_any (A : Option Addr) (n c : Nat) (l : List UInt8) (m : Int) (w : World) (h : Rd w 1 A n c (l.map b8)) (hn : n ≤ 1073741824) (h0 : 0 ≤ m) (h1 : m ≤ 1073741824) :
    Calls Try.prog 23 #[.slice A n c, .int .i64 m] w fun e w' => ∃ A' c', e = .returned (.slice A' n c') ∧ Own w' w.heap.size 5 1 A' n c' (l.map b8) ∧ Below w.heap.size w w' := by
  go_enter Try.func23, Try.ntmps23
  go_wp2_with (first
    | (at_make
       refine wpList_mk rfl _ _ rfl eb rfl rfl 0 (n + m.toNat) (by omega) (by omega) (by omega) (by omega) (by unfold maxLen; omega) (Nat.le_refl _) ?_
       intro w1 ho1 hg1 hz1)
    | (at_builtin
       refine wpList_app rfl _ _ rfl eb ho1 rfl (h.grown hg1 (by simp)) rfl (b8_one _) (by omega) (by unfold maxLen; omega) hg1.size ?_
       intro A' c' w2 ho2 hg2 hb2))
  go_ret
  exact ⟨A', c', rfl, by simpa [madeCells] using ho2, (Below.refl _ _).grown hg1 (Nat.le_refl _) (by simp) |>.grown hg2 hg1.size (fun g hg => (ho1.lt g hg).1)⟩

theorem put_snoc (l : List UInt8) (v k q : Int) (hv : 0 ≤ v) (hq : 0 ≤ q) (hk : q < k) :
    List.map b8 (l ++ putB (v.toNat / 256 ^ (q + 1).toNat) (k.toNat - (q + 1).toNat)) ++ [Value.int IntKind.u8 (v / 2 ^ (8 * q).toNat % 256)] =
      List.map b8 (l ++ putB (v.toNat / 256 ^ (q - 1 + 1).toNat) (k.toNat - (q - 1 + 1).toNat)) := by
  obtain ⟨V, rfl⟩ := Int.eq_ofNat_of_zero_le hv
  obtain ⟨j, rfl⟩ := Int.eq_ofNat_of_zero_le hq
  obtain ⟨K, rfl⟩ := Int.eq_ofNat_of_zero_le (show 0 ≤ k by omega)
  have e1 : ((j : Int) + 1).toNat = j + 1 := by omega
  have e2 : ((j : Int) - 1 + 1).toNat = j := by omega
  have e3 : (8 * (j : Int)).toNat = 8 * j := by omega
  rw [e1, e2, e3]
  simp only [Int.toNat_natCast]
  rw [putB_step V K j (by omega)]
  have e4 : ((V : Int) / 2 ^ (8 * j) % 256) = ((V / 256 ^ j % 256 : Nat) : Int) := by
    have : (256 : Nat) ^ j = 2 ^ (8 * j) := by rw [Nat.pow_mul]
    rw [this, Int.natCast_emod, Int.natCast_ediv, Int.natCast_pow]
    rfl
  rw [e4, ← b8_ofNat]
  simp only [List.map_append, List.append_assoc, List.map_cons, List.map_nil]

/-- What Put(b, v, k) hands back: bytes, and the error's number. -/
def putR (l : List UInt8) (v k : Int) : List UInt8 × Int :=
  if k < 1 ∨ 8 < k then ([], 1) else if k < 8 ∧ (v / 2 ^ (8 * k).toNat != 0) = true then ([], 2) else (l ++ putB v.toNat k.toNat, 0)

theorem Put_any (A : Option Addr) (n c : Nat) (l : List UInt8) (v k : Int) (w : World) (h : Rd w 1 A n c (l.map b8)) (hn : n ≤ 1073741824) (hv0 : 0 ≤ v) (hv : v ≤ 18446744073709551615) :
    Calls Try.prog 17 #[.slice A n c, .int .u64 v, .int .i64 k] w fun e w' => ∃ A' n' c', e = .returned (.tuple #[.slice A' n' c', .int .i64 (putR l v k).2]) ∧ Own w' w.heap.size 5 1 A' n' c' ((putR l v k).1.map b8) ∧ Below w.heap.size w w' := by
  by_cases hk : k < 1 ∨ 8 < k
  · have e : putR l v k = ([], 1) := if_pos hk
    rw [e]
    rcases hk with hk | hk
    all_goals
      go_enter Try.func17, Try.ntmps17
      go_wp2_with fail
      go_ret2
      exact ⟨_, _, _, rfl, Own.nil_ _ _ _ _, Below.refl _ _⟩
  by_cases hf : k < 8 ∧ (v / 2 ^ (8 * k).toNat != 0) = true
  · have e : putR l v k = ([], 2) := by unfold putR; rw [if_neg hk, if_pos hf]
    rw [e]
    obtain ⟨hk8, hf⟩ := hf
    go_enter Try.func17, Try.ntmps17
    go_wp2_with fail
    go_ret2
    exact ⟨_, _, _, rfl, Own.nil_ _ _ _ _, Below.refl _ _⟩
  have e : putR l v k = (l ++ putB v.toNat k.toNat, 0) := by unfold putR; rw [if_neg hk, if_neg hf]
  rw [e]
  clear e
  have hk1 : 1 ≤ k := by omega
  have hk8 : k ≤ 8 := by omega
  have hf' : k < 8 → (v / 2 ^ (8 * k).toNat != 0) = false := fun h => by simpa [h] using hf
  clear hf hk
  by_cases h8 : k < 8
  all_goals
    try have hf'' := hf' h8
    clear hf'
    go_enter Try.func17, Try.ntmps17
    go_wp2_with (go_at_call 23; refine (own_any A n c l k _ h hn (by omega) (by omega)).mono ?_; rintro e w1 ⟨A1, c1, rfl, ho1, hb1⟩)
    have hB := hb1.size
    go_loopw [8, 9] (fun v8 v9 wr => ∃ (q : Int) (A' : Option Addr) (n' c' : Nat), -1 ≤ q ∧ q < k ∧ v9 = .int .i64 q ∧ v8 = .slice A' n' c' ∧ Own wr w.heap.size 5 1 A' n' c' ((l ++ putB (v.toNat / 256 ^ (q + 1).toNat) (k.toNat - (q + 1).toNat)).map b8) ∧ Below w.heap.size w wr) (fun _ v9 _ => (intOf v9 + 1).toNat)
    case atStart => exact ⟨k - 1, A1, n, c1, by omega, by omega, rfl, rfl, by simpa [putB] using ho1, hb1⟩
    case round =>
      obtain ⟨q, A', n', c', hq0, hqk, rfl, rfl, ho, hb⟩ := hrel
      have hlen := ho.rd.len
      simp only [List.length_map, List.length_append, putB_length, Nat.mul_one] at hlen
      have hlh := h.len
      simp only [List.length_map, Nat.mul_one] at hlh
      by_cases hq : 0 ≤ q
      · go_wp2_with (at_builtin; refine wpList_app rfl _ _ rfl eb (ho.alloc _) rfl (Rd.lit _ [_] _ 1 rfl (by decide)) rfl (by simp [Value.oneCell']) (by omega) (by unfold maxLen; omega) (by simp; have := hb.size; omega) ?_; intro A2 c2 w2 ho2 hg2 hb2)
        go_roundw
        case rel =>
          have hs := put_snoc l v k q hv0 hq hqk
          rw [hs] at ho2
          exact ⟨q - 1, A2, _, c2, by omega, by omega, rfl, rfl, ho2, below_app hb (Nat.le_refl _) ho hg2⟩
        case measure => simp [intOf]; omega
      · go_wp2_with fail
        go_ret2
        have e : q = -1 := by omega
        subst e
        exact ⟨_, _, _, rfl, by simpa using ho, hb⟩

end Go.Proofs.Ytebnmpgoiedicaa
