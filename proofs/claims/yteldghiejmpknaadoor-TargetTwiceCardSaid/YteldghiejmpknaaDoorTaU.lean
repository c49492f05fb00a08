/-
  The document's Same, on targets that say the same.
-/
import Derived.Test.YteldghiejmpknaaDoorTaS
namespace Go.Proofs.YteldghiejmpknaaDoor
open Go.RowKit

/-- Are two parameters the same? -/
def prEq (a b a2 b2 : List UInt8) : Bool := (a == a2) && (b == b2)
theorem prEq_self (a b : List UInt8) : prEq a b a b = true := by simp [prEq]
section
variable {a b a2 b2 : List UInt8}
theorem part_pn (W : World) : (part 9 (prA a b) 0).run Tryd.prog W = .ok (.string ⟨a.toArray⟩) W := by
  simp [part, isAgg, run_underlying Tryd.underlying9, prA, strV]
theorem part_pv (W : World) : (part 9 (prA a b) 1).run Tryd.prog W = .ok (.string ⟨b.toArray⟩) W := by
  simp [part, isAgg, run_underlying Tryd.underlying9, prA, strV]
theorem equal_pr (W : World) : (Op.equalIn 10000 32 (.agg (prA a b)) (.agg (prA a2 b2))).run Tryd.prog W = .ok (prEq a b a2 b2) W := by
  have hS : Tryd.prog.underlying 32 = some (.struct (Tryd.prog.fieldsOf 32)) := by kernel_rfl
  have hp : Tryd.prog.stoodInHeld 32 = false := by kernel_rfl
  have h1 : (Op.equalIn 9999 9 (.string ⟨a.toArray⟩) (.string ⟨a2.toArray⟩)).run Tryd.prog W = .ok (a == a2) W := by
    rw [show (9999 : Nat) = 9998 + 1 from rfl, run_equalIn_string W 9998 9 _ _ Tryd.underlying9, ByteArray.toList_eq, ByteArray.toList_eq]
  have h2 : (Op.equalIn 9999 9 (.string ⟨b.toArray⟩) (.string ⟨b2.toArray⟩)).run Tryd.prog W = .ok (b == b2) W := by
    rw [show (9999 : Nat) = 9998 + 1 from rfl, run_equalIn_string W 9998 9 _ _ Tryd.underlying9, ByteArray.toList_eq, ByteArray.toList_eq]
  rw [show (10000 : Nat) = 9999 + 1 from rfl, run_equalIn_agg W 9999 32 _ _ hS hp]
  simp only [Program.fieldsOf, Tryd.underlying32]
  unfold prEq
  generalize (a == a2) = B1 at *
  generalize (b == b2) = B2 at *
  cases B1 <;> cases B2 <;> simp [Op.eqFields, part_pn, part_pv, h1, h2, Result.andThen]
theorem neq_pr (W : World) : (binOp .neq 32 (.agg (prA a b)) (.agg (prA a2 b2))).run Tryd.prog W = .ok (.bool (!prEq a b a2 b2)) W := by
  rw [run_neq_struct, equal_pr]
  rfl
end
section
variable {ops : Array Oper} {Q : Exit → Act → World → Prop} {x y x2 y2 : List UInt8}
theorem plan_neq_pr {S : World → Prop} {i : Nat} {o : Oper} {p : MPlan} {a : Act} {w : World} (ho : ops[i]? = some o) {u v : Operand} (hop : o.op = .binOp .neq 32 u v 32) (hw : Region.wanted o (yielded ops a.tmps) = true) (hu : a.eval u = .agg (prA x y)) (hv : a.eval v = .agg (prA x2 y2))
    (h : wpPlan Tryd.prog ops Q S p (a.put o.dst (.bool (!prEq x y x2 y2))) w) : wpPlan Tryd.prog ops Q S (.read i p) a w :=
  plan_run ho hw _ (fun w' _ => by
    have hg := run_eqGuard_agg (P := Tryd.prog) w' .neq 32 u v (prA x y) (prA x2 y2) (by kernel_rfl)
    unfold execOp
    simp only [hop, hu, hv, Sem.run_bind, Sem.run_pure, Result.andThen_ok, hg, neq_pr w']) h
end

set_option maxRecDepth 20000 in
set_option maxHeartbeats 8000000 in
theorem Same_eq {w : World} {A B A' B' : Option Addr} {n c m d c' d' : Nat} {P : List (List UInt8)} {Q : List Pm} (hS : Ss w A n c P) (hQ : Ps w B m d Q) (hS' : Ss w A' n c' P) (hQ' : Ps w B' m d' Q) :
    Calls Tryd.prog 11 #[.agg (tgA A n c B m d), .agg (tgA A' n c' B' m d')] w fun e w' => e = .returned (.bool true) ∧ Below w.heap.size w w' := by
  have hPl : P.length = n := by have := Rd.len hS; simpa using this
  have HPL := Lib.hid hPl
  have HQL := Lib.hid hQ.len
  have HS := Lib.hid hS
  have HQ := Lib.hid hQ
  have HS' := Lib.hid hS'
  have HQ' := Lib.hid hQ'
  have hnil := Rd.nil hS
  have hle := Rd.le hS
  have hnil' := Rd.nil hS'
  have hle' := Rd.le hS'
  have hmx := Rd.max hS
  have hmy := Rd.max (show Rd w 2 B m d (prL Q) from hQ)
  have hmz := Rd.le (show Rd w 2 B m d (prL Q) from hQ)
  unfold maxLen at hmx hmy
  clear hPl hS hQ hS' hQ'
  go_enter Tryd.func11, Tryd.ntmps11
  go_upto_region 1 with (first
    | (refine wpList_box (o := ⟨some 2, _, _, _, _, _⟩) rfl _ _ rfl (tgA A n c B m d) rfl ?_; intro w1 hg1 hb1 hz1; clear hz1)
    | (refine wpList_box (o := ⟨some 3, _, _, _, _, _⟩) rfl _ _ rfl (tgA A' n c' B' m d') rfl ?_; intro w2 hg2 hb2 hz2; clear hz2))
  have hlt1 : w.heap.size < w1.heap.size := (Array.getElem?_eq_some_iff.1 hg1).1
  have hlt2 : w1.heap.size < w2.heap.size := (Array.getElem?_eq_some_iff.1 hg2).1
  have hg12 := (hb2.block _ hlt1).trans hg1
  have hbw2 := hb1.trans (hb2.mono hb1.size)
  obtain ⟨g, hg⟩ : ∃ g, w1.heap.size = g := ⟨_, rfl⟩
  rw [hg] at hg2 hlt2 hlt1 ⊢
  have hBOX : ∀ W, Below w2.heap.size w2 W → (W.cell? ⟨w.heap.size, 0, none⟩ = some (.slice A n c) ∧ W.cell? ⟨w.heap.size, 1, none⟩ = some (.slice B m d)) ∧ (W.cell? ⟨g, 0, none⟩ = some (.slice A' n c') ∧ W.cell? ⟨g, 1, none⟩ = some (.slice B' m d')) := fun W hW => ⟨cell_tg ((hW.block _ (by omega)).trans hg12), cell_tg ((hW.block _ hlt2).trans hg2)⟩
  have HBOX := Lib.hid hBOX
  have hbw : ∀ W, Below w2.heap.size w2 W → Below w.heap.size w W := fun W hW => hbw2.trans (hW.mono hbw2.size)
  have HBW := Lib.hid hbw
  obtain ⟨⟨hc0, hc1⟩, ⟨hd0, hd1⟩⟩ := hBOX w2 (Below.refl _ _)
  clear hg1 hg2 hb1 hb2 hg12 hbw2 hBOX hbw hg
  go_wp2_with fail
  clear hc0 hc1 hd0 hd1
  go_loopw [5] (fun i wr => ∃ k : Nat, k ≤ n ∧ i = .int .i64 k ∧ Below w2.heap.size w2 wr) (fun i _ => n - (intOf i).toNat)
  case atStart => exact ⟨0, by omega, rfl, Below.refl _ _⟩
  case round =>
    obtain ⟨k, hk, rfl, hb⟩ := hrel
    obtain ⟨⟨hc0, hc1⟩, ⟨hd0, hd1⟩⟩ := HBOX.out wr hb
    by_cases hkn : k < n
    · have hx : P[k]? = some (P[k]'(by rw [HPL.out]; exact hkn)) := List.getElem?_eq_getElem _
      generalize P[k]'(by rw [HPL.out]; exact hkn) = p at hx
      have hidx := run_index_rd (P := Tryd.prog) (A := A) (n := n) (c := c) es hnil hle k hkn
      have hidx' := run_index_rd (P := Tryd.prog) (A := A') (n := n) (c := c') es hnil' hle' k hkn
      rw [Nat.mul_one] at hidx hidx'
      have hcell := Rd.cell (Rd.below HS.out (HBW.out wr hb)) k (strV p) (by rw [List.getElem?_map, hx]; rfl)
      have hcell' := Rd.cell (Rd.below HS'.out (HBW.out wr hb)) k (strV p) (by rw [List.getElem?_map, hx]; rfl)
      unfold strV at hcell hcell'
      have hk' : (k : Int) < n := by omega
      clear hx hkn
      go_upto_region 6 with fail
      go_quiet (fail)
      have hb9 := below_drewN hb nq
      clear hc0 hc1 hd0 hd1 hcell hcell'
      go_wp2_with fail
      go_roundw
      case rel => exact ⟨k + 1, by omega, by go_num, hb9⟩
      case measure => simp [intOf]; omega
    · obtain rfl : k = n := by omega
      clear hkn
      go_wp2_with fail
      clear hc0 hc1 hd0 hd1
      go_loopw [6] (fun i wr => ∃ k : Nat, k ≤ m ∧ i = .int .i64 k ∧ Below w2.heap.size w2 wr) (fun i _ => m - (intOf i).toNat)
      case atStart => exact ⟨0, by omega, rfl, hb⟩
      case round =>
        obtain ⟨l, hl, rfl, hb⟩ := hrel
        obtain ⟨⟨_, hc1⟩, ⟨_, hd1⟩⟩ := HBOX.out wr hb
        by_cases hlm : l < m
        · have hx : Q[l]? = some (Q[l]'(by rw [HQL.out]; exact hlm)) := List.getElem?_eq_getElem _
          generalize Q[l]'(by rw [HQL.out]; exact hlm) = q at hx
          have hQr := HQ.out.below (HBW.out wr hb)
          have hQr' := HQ'.out.below (HBW.out wr hb)
          have hidx := fun W => hQr.idx hlm W
          have hidx' := fun W => hQr'.idx hlm W
          have hld := fun b : Later wr => (hQr.below b.below).load hx
          have hld' := fun b : Later wr => (hQr'.below b.below).load hx
          have hc1L : ∀ b : Later wr, b.at'.cell? ⟨w.heap.size, 1, none⟩ = some (.slice B m d) := fun b => (HBOX.out _ (hb.trans (b.below.mono hb.size))).1.2
          have hd1L : ∀ b : Later wr, b.at'.cell? ⟨g, 1, none⟩ = some (.slice B' m d') := fun b => (HBOX.out _ (hb.trans (b.below.mono hb.size))).2.2
          have hl' : (l : Int) < m := by omega
          obtain ⟨x, y⟩ := q
          dsimp only at hld hld'
          clear hx hlm hQr hQr'
          go_upto_region 11 with fail
          clear hc1 hd1
          refine wp_region_plan (MPlan.reads [0, 1, 2, 3, 4, 5, 6, 7, 8, 9, 10] .fin) (fun x => ∃ b : Later wr, x = b.at') (by kernel_rfl) (by kernel_rfl) (by kernel_rfl) (fun _ _ _ _ _ h => h) ⟨⟨wr.drew, drewL⟩, rfl⟩ ?_
          iterate 4 (refine plan_read (o := ⟨_, _, _, _, _, _⟩) (by rfl) (by rfl) ?_; go_big_quiet_step (fail); refine wpQuiet_nil ?_)
          refine plan_load (o := ⟨_, _, _, _, _, _⟩) (by rfl) rfl (by rfl) _ rfl _ (fun w' hS => by obtain ⟨b, rfl⟩ := hS; exact hld b) ?_
          simp only [Act.put, List.setIfInBounds_toArray, List.set_cons_succ, List.set_cons_zero]
          iterate 4 (refine plan_read (o := ⟨_, _, _, _, _, _⟩) (by rfl) (by rfl) ?_; go_big_quiet_step (fail); refine wpQuiet_nil ?_)
          refine plan_load (o := ⟨_, _, _, _, _, _⟩) (by rfl) rfl (by rfl) _ rfl _ (fun w' hS => by obtain ⟨b, rfl⟩ := hS; exact hld' b) ?_
          simp only [Act.put, List.setIfInBounds_toArray, List.set_cons_succ, List.set_cons_zero]
          refine plan_neq_pr (o := ⟨_, _, _, _, _, _⟩) (by rfl) rfl (by rfl) rfl rfl ?_
          rw [prEq_self]
          simp only [Act.put, List.setIfInBounds_toArray, List.set_cons_succ, List.set_cons_zero, Bool.not_true]
          refine plan_fin ?_
          have hb9 := hb.trans (drewL.mono hb.size)
          clear hc1L hd1L hld hld'
          go_wp2_with fail
          go_roundw
          case rel => exact ⟨l + 1, by omega, by go_num, hb9⟩
          case measure => simp [intOf]; omega
        · obtain rfl : l = m := by omega
          have hbq := HBW.out wr hb
          clear hlm
          go_wp2_with fail
          go_ret
          exact ⟨rfl, hbq⟩

end Go.Proofs.YteldghiejmpknaaDoor
