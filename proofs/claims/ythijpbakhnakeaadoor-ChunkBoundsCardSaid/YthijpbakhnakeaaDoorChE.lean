/-
  Package chunk: take at a chunk's size.
-/
import Derived.Test.YthijpbakhnakeaaDoorChB
namespace Go.Proofs.YthijpbakhnakeaaDoor
open Go.RowKit

theorem i64_or_nat (a b : Nat) (ha : a < 9223372036854775808) (hb : b < 9223372036854775808) : bits .or .i64 (a : Int) (b : Int) = ((a ||| b : Nat) : Int) := by
  have hx : a ||| b < 2 ^ 63 := Nat.or_lt_two_pow (by omega) (by omega)
  show IntKind.i64.wrap ((BitVec.ofInt 64 (a : Int) ||| BitVec.ofInt 64 (b : Int)).toNat : Int) = _
  rw [BitVec.toNat_or, ofInt_i64 a ha, ofInt_i64 b hb, IntKind.wrap_i64]
  omega
theorem or16 (a d : Int) (ha0 : 0 ≤ a) (ha : a ≤ 68719476735) (hd0 : 0 ≤ d) (hd : d < 16) : bits .or .i64 (a * 16) d = a * 16 + d := by
  obtain ⟨x, rfl⟩ := Int.eq_ofNat_of_zero_le ha0
  obtain ⟨y, rfl⟩ := Int.eq_ofNat_of_zero_le hd0
  have e : ((x : Int) * 16) = ((x * 16 : Nat) : Int) := by omega
  rw [e, i64_or_nat _ _ (by omega) (by omega)]
  have h := Nat.shiftLeft_add_eq_or_of_lt (i := 4) (b := y) (by omega) x
  rw [Nat.shiftLeft_eq] at h
  rw [show x * 16 = x * 2 ^ 4 by omega, ← h]
  omega
theorem digP_lt (c : Int) : digP c < 16 := by
  unfold digP
  split
  · omega
  · split
    · omega
    · split <;> omega

set_option maxRecDepth 20000 in
set_option maxHeartbeats 2000000 in
theorem take_size {w : World} {base g : Nat} {A : Option Addr} {n c : Nat} {s : St} (hb : Body w base g A n c s) (x : UInt8) (h : s.nx = 2) (hN : Num s) : TakeSpec w base g A s x := by
  obtain ⟨c0, c1, c2, c3, c4, f0, f1, f2, f3, f4⟩ := hb.facts
  obtain ⟨nx, lf, dg, bd, got⟩ := s
  obtain ⟨n1, n2, n3, n4, n5⟩ := hN
  dsimp only at h c0 c1 c2 c4 n1 n2 n3 n4 n5
  subst h
  have F12 := fun W v => far (g := g) (i := 1) (j := 2) (by omega) W v
  unfold TakeSpec
  obtain ⟨d, hd⟩ : ∃ d, digP (x.toNat : Int) = d := ⟨_, rfl⟩
  have hd16 := digP_lt (x.toNat : Int)
  have hD := Lib.hid (digit_any x w)
  rw [hd] at hd16 hD
  by_cases h1 : 0 ≤ d
  · have e1 : max 0 d = d := by omega
    rw [e1, decide_eq_true h1] at hD
    clear e1
    by_cases h2 : dg < 8
    · have e : takeP ⟨2, lf, dg, bd, got⟩ x = (⟨2, lf * 16 + d, dg + 1, bd, got⟩, 0) := by simp [takeP, hd, h1, h2]
      rw [e]
      clear e hd
      have ho := or16 lf d n1 n2 h1 hd16
      have HO := Lib.hid ho
      go_enter Tryd.func19, Tryd.ntmps19
      go_wp2_with (go_at_call 22; refine hD.out.mono ?_; rintro e w1 ⟨rfl, rfl⟩)
      go_ret
      exact ⟨A, n, c, rfl, (hb.set 1 (.int .i64 (lf * 16 + d)) ⟨2, lf * 16 + d, dg, bd, got⟩ rfl rfl).set 2 (.int .i64 (dg + 1)) ⟨2, lf * 16 + d, dg + 1, bd, got⟩ rfl rfl, ((But.refl _ w).set (a := ⟨g, 1, none⟩) _ (.inl (.inl rfl))).set (a := ⟨g, 2, none⟩) _ (.inl (.inl rfl)), fun k hk => .inl hk⟩
    · have h3 : dg = 8 := by omega
      subst h3
      have e : takeP ⟨2, lf, 8, bd, got⟩ x = wantP ⟨2, lf, 8, bd, got⟩ (x.toNat : Int) 13 3 := by simp [takeP]
      rw [e]
      clear e hd
      go_enter Tryd.func19, Tryd.ntmps19
      go_wp2_with (first
        | (go_at_call 22; refine hD.out.mono ?_; rintro e w1 ⟨rfl, rfl⟩)
        | (go_at_call 23; refine (want_any hb (x.toNat : Int) 13 3).mono ?_; rintro e w' ⟨rfl, hb', hw'⟩))
      go_ret
      exact ⟨A, n, c, rfl, hb', hw', fun k hk => .inl hk⟩
  · have e1 : max 0 d = 0 := by omega
    rw [e1, decide_eq_false h1] at hD
    clear e1
    by_cases h2 : dg = 0
    · subst h2
      have e : takeP ⟨2, lf, 0, bd, got⟩ x = (⟨2, lf, 0, bd, got⟩, 4) := by simp [takeP, hd, h1]
      rw [e]
      clear e hd
      go_enter Tryd.func19, Tryd.ntmps19
      go_wp2_with (go_at_call 22; refine hD.out.mono ?_; rintro e w1 ⟨rfl, rfl⟩)
      go_ret
      exact ⟨A, n, c, rfl, hb, But.refl _ _, fun k hk => .inl hk⟩
    · have e : takeP ⟨2, lf, dg, bd, got⟩ x = wantP ⟨2, lf, dg, bd, got⟩ (x.toNat : Int) 13 3 := by simp [takeP, hd, h1, h2]
      rw [e]
      clear e hd
      have h2' : (dg == 0) = false := by simpa using h2
      clear h2
      go_enter Tryd.func19, Tryd.ntmps19
      go_wp2_with (first
        | (go_at_call 22; refine hD.out.mono ?_; rintro e w1 ⟨rfl, rfl⟩)
        | (go_at_call 23; refine (want_any hb (x.toNat : Int) 13 3).mono ?_; rintro e w' ⟨rfl, hb', hw'⟩))
      go_ret
      exact ⟨A, n, c, rfl, hb', hw', fun k hk => .inl hk⟩

end Go.Proofs.YthijpbakhnakeaaDoor
