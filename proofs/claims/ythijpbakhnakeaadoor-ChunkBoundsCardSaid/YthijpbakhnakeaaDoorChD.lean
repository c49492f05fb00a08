/-
  Package chunk: take where bytes of data come.
-/
import Derived.Test.YthijpbakhnakeaaDoorChB
namespace Go.Proofs.YthijpbakhnakeaaDoor
open Go.RowKit

theorem obj_facts {w : World} {g : Nat} {A : Option Addr} {n c : Nat} {s : St} (h : w.heap[g]? = some (.cells (bodyCells s A n c) 43 (0, 0))) :
    w.cell? ⟨g, 0, none⟩ = some (.int .i64 s.nx) ∧ w.cell? ⟨g, 1, none⟩ = some (.int .i64 s.lf) ∧ w.cell? ⟨g, 2, none⟩ = some (.int .i64 s.dg) ∧ w.cell? ⟨g, 3, none⟩ = some (.slice A n c) ∧ w.cell? ⟨g, 4, none⟩ = some (.int .i64 s.bd) ∧
    w.frozen? ⟨g, 0, none⟩ = false ∧ w.frozen? ⟨g, 1, none⟩ = false ∧ w.frozen? ⟨g, 2, none⟩ = false ∧ w.frozen? ⟨g, 3, none⟩ = false ∧ w.frozen? ⟨g, 4, none⟩ = false :=
  ⟨cell_of h rfl, cell_of h rfl, cell_of h rfl, cell_of h rfl, cell_of h rfl, frozen_of h, frozen_of h, frozen_of h, frozen_of h, frozen_of h⟩

set_option maxRecDepth 20000 in
set_option maxHeartbeats 2000000 in
theorem take_data {w : World} {base g : Nat} {A : Option Addr} {n c : Nat} {s : St} (hb : Body w base g A n c s) (x : UInt8) (h : s.nx = 1 ∨ s.nx = 4) (hN : Num s) : TakeSpec w base g A s x := by
  obtain ⟨c0, c1, c2, c3, c4, f0, f1, f2, f3, f4⟩ := hb.facts
  have hlen := hb.row.rd.lenb
  obtain ⟨nx, lf, dg, bd, got⟩ := s
  obtain ⟨n1, n2, n3, n4, n5⟩ := hN
  dsimp only at h c0 c1 c2 c4 n1 n2 n3 n4 n5 hlen
  have hgs : base ≤ w.heap.size := Nat.le_trans hb.ge (Nat.le_of_lt hb.lt)
  have hglt := hb.lt
  have F31 := fun W v => far (g := g) (i := 3) (j := 1) (by omega) W v
  have F30 := fun W v => far (g := g) (i := 3) (j := 0) (by omega) W v
  have F10 := fun W v => far (g := g) (i := 1) (j := 0) (by omega) W v
  unfold TakeSpec
  have hcase : ∀ nx', (nx' = if 1 < lf then nx else if nx = 1 then 9 else 5) → takeP ⟨nx, lf, dg, bd, got⟩ x = (⟨nx', lf - 1, dg, bd, got ++ [x]⟩, 0) := by
    intro nx' e
    subst e
    unfold takeP
    rw [if_pos h]
  have hn5 : (n : Int) ≤ 1048576 := by omega
  by_cases hl : 1 < lf
  all_goals rcases h with rfl | rfl
  all_goals
    have e := hcase _ (by first | rw [if_pos hl] | (rw [if_neg hl, if_pos rfl]) | (rw [if_neg hl, if_neg (by omega)]))
    rw [e]
    clear e hcase
    have h01 : (decide (0 < lf - 1)) = (decide (1 < lf)) := by rw [decide_eq_decide]; omega
    first | (rw [decide_eq_true hl] at h01) | (rw [decide_eq_false hl] at h01)
    go_enter Tryd.func19, Tryd.ntmps19
    go_wp2_with (at_builtin; refine wpList_app rfl _ _ rfl eb (hb.row.alloc _) rfl (Rd.lit _ [_] _ 1 rfl (by unfold maxLen; omega)) rfl (by simp [Value.oneCell']) (by omega) (by unfold maxLen; omega) (by simp; omega) ?_; intro A2 c2' w2 ho2 hg2 hq2; have hobj2 := (hg2.block g (by simp; omega) (fun e => hb.ne e.symm)).trans ((Below.heap_alloc w _ g hglt).trans hb.obj); obtain ⟨d0, d1, d2, d3, d4, e0, e1, e2, e3, e4⟩ := obj_facts hobj2; dsimp only at d0 d1 d2 d4)
    go_ret
    have hne2 : blk A2 ≠ some g := by
      intro e
      rcases hq2 with h1 | h1
      · exact hb.ne (h1.symm.trans e)
      · rw [h1] at e
        simp at e
        omega
    have hlast : ∀ k, blk A2 = some k → blk A = some k ∨ w.heap.size ≤ k := by
      intro k hk
      rcases hq2 with h1 | h1
      · exact .inl (h1.symm.trans hk)
      · rw [h1] at hk
        simp at hk
        exact .inr (by omega)
    have hM := Body.move (n' := n + 1) (c' := c2') (l := got ++ [x]) hobj2 hb.ge (by rw [List.map_append]; exact ho2) hne2
    have hw2 : But (Mine g A) w w2 := (But.of_below ((Below.refl _ _).alloc (Nat.le_refl _) _)).trans (But.of_grown hg2 (S := Mine g A) (fun k hk => .inr hk)) (fun i hi => .inl hi)
    have hw3 := hw2.set (a := ⟨g, 3, none⟩) (.slice A2 (n + 1) c2') (.inl (.inl rfl))
    have hw4 := hw3.set (a := ⟨g, 1, none⟩) (.int .i64 (lf - 1)) (.inl (.inl rfl))
    first
      | exact ⟨rfl, A2, ⟨n + 1, c2', hM.set 1 (.int .i64 (lf - 1)) ⟨_, lf - 1, dg, bd, got ++ [x]⟩ rfl rfl⟩, hw4, hlast⟩
      | exact ⟨rfl, A2, ⟨n + 1, c2', (hM.set 1 (.int .i64 (lf - 1)) ⟨_, lf - 1, dg, bd, got ++ [x]⟩ rfl rfl).set 0 (.int .i64 9) ⟨9, lf - 1, dg, bd, got ++ [x]⟩ rfl rfl⟩, hw4.set (a := ⟨g, 0, none⟩) _ (.inl (.inl rfl)), hlast⟩
      | exact ⟨rfl, A2, ⟨n + 1, c2', (hM.set 1 (.int .i64 (lf - 1)) ⟨_, lf - 1, dg, bd, got ++ [x]⟩ rfl rfl).set 0 (.int .i64 5) ⟨5, lf - 1, dg, bd, got ++ [x]⟩ rfl rfl⟩, hw4.set (a := ⟨g, 0, none⟩) _ (.inl (.inl rfl)), hlast⟩

end Go.Proofs.YthijpbakhnakeaaDoor
