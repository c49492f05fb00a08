/-
  Package chunk: take, the rest of its states.
-/
import Derived.Test.YthijpbakhnakeaaDoorChB
namespace Go.Proofs.YthijpbakhnakeaaDoor
open Go.RowKit

theorem Body.drew {w : World} {base g : Nat} {A : Option Addr} {n c : Nat} {s : St} (h : Body w base g A n c s) : Body w.drew base g A n c s := h.keep rfl fun _ _ => rfl

set_option maxHeartbeats 1000000 in
theorem take_line {w : World} {base g : Nat} {A : Option Addr} {n c : Nat} {s : St} (hb : Body w base g A n c s) (x : UInt8) (h : s.nx = 3) (hN : Num s) : TakeSpec w base g A s x := by
  obtain ⟨c0, c1, c2, c3, c4, f0, f1, f2, f3, f4⟩ := hb.facts
  have hlen := hb.row.rd.lenb
  obtain ⟨nx, lf, dg, bd, got⟩ := s
  obtain ⟨n1, n2, n3, n4, n5⟩ := hN
  dsimp only at h c0 c1 c2 c4 n1 n2 n3 n4 n5 hlen
  subst h
  have l1 := (far (g := g) (i := 2) (j := 1) (by omega) w (.int .i64 0)).trans c1
  have l3 := (far (g := g) (i := 2) (j := 3) (by omega) w (.int .i64 0)).trans c3
  have hB := hb.set 2 (.int .i64 0) ⟨3, lf, 0, bd, got⟩ rfl rfl
  have hw : But (Mine g A) w (w.setCell ⟨g, 2, none⟩ (.int .i64 0)) := (But.refl _ w).set _ (.inl (.inl rfl))
  have hx := x.toNat_lt
  unfold TakeSpec
  obtain ⟨X, hX⟩ : ∃ X, x.toNat = X := ⟨_, rfl⟩
  by_cases h10 : (X : Int) = 10
  · have h10' : ((X : Int) != 10) = false := by simpa using h10
    by_cases h2 : 4096 - (n : Int) < lf
    · have e : takeP ⟨3, lf, dg, bd, got⟩ x = (⟨3, lf, 0, bd, got⟩, 2) := by simp [takeP, hX, h10, hlen, h2]
      rw [e, hX]
      clear e hX h10
      go_enter Tryd.func19, Tryd.ntmps19
      go_wp2_with fail
      go_region
      all_goals (go_wp2_with fail; go_ret; exact ⟨A, n, c, rfl, hB.drew, hw.drew, fun k hk => .inl hk⟩)
    · have h2' : lf ≤ 4096 - (n : Int) := by omega
      have hl2 : lf ≤ 4096 := by omega
      by_cases h0 : lf = 0
      · have hB2 := hB.drew.set 0 (.int .i64 7) ⟨7, 0, 0, bd, got⟩ (by subst h0; rfl) rfl
        have hw2 := hw.drew.set (a := ⟨g, 0, none⟩) (.int .i64 7) (.inl (.inl rfl))
        have e : takeP ⟨3, lf, dg, bd, got⟩ x = (⟨7, 0, 0, bd, got⟩, 0) := by subst h0; simp [takeP, hX, h10, hlen, h2]
        rw [e, hX]
        clear e hX h10 h2
        have h0' : (lf == 0) = true := by simpa using h0
        subst h0
        go_enter Tryd.func19, Tryd.ntmps19
        go_wp2_with fail
        go_region
        all_goals (go_wp2_with fail; go_ret; exact ⟨A, n, c, rfl, hB2, hw2, fun k hk => .inl hk⟩)
      · have hB2 := hB.drew.set 0 (.int .i64 4) ⟨4, lf, 0, bd, got⟩ rfl rfl
        have hw2 := hw.drew.set (a := ⟨g, 0, none⟩) (.int .i64 4) (.inl (.inl rfl))
        have e : takeP ⟨3, lf, dg, bd, got⟩ x = (⟨4, lf, 0, bd, got⟩, 0) := by simp [takeP, hX, h10, hlen, h2, h0]
        rw [e, hX]
        clear e hX h10 h2
        have h0' : (lf == 0) = false := by simpa using h0
        clear h0
        go_enter Tryd.func19, Tryd.ntmps19
        go_wp2_with fail
        go_region
        all_goals (go_wp2_with fail; go_ret; exact ⟨A, n, c, rfl, hB2, hw2, fun k hk => .inl hk⟩)
  · have e : takeP ⟨3, lf, dg, bd, got⟩ x = (⟨3, lf, 0, bd, got⟩, 4) := by simp [takeP, hX, h10]
    rw [e, hX]
    clear e hX
    have h10' : ((X : Int) != 10) = true := by simpa using h10
    clear h10
    go_enter Tryd.func19, Tryd.ntmps19
    go_wp2_with fail
    go_ret
    exact ⟨A, n, c, rfl, hB, hw, fun k hk => .inl hk⟩

end Go.Proofs.YthijpbakhnakeaaDoor
