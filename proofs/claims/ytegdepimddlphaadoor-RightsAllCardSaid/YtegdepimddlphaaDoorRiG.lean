/-
  The document's sets as eight bools.
-/
import Derived.Test.YtegdepimddlphaaDoorRiF
import Derived.Test.YtegdepimddlphaaDoorStrs
import Derived.Deep.CutBlock
namespace Go.Proofs.YtegdepimddlphaaDoor
open Go.RowKit

/-- Eight bools in a row. -/
def fC (f : Nat → Bool) : Array Value := ((List.range 8).map fun i => Value.bool (f i)).toArray
theorem fC_size (f : Nat → Bool) : (fC f).size = 8 := by simp [fC]
theorem fC_at (f : Nat → Bool) {k : Nat} (h : k < 8) : (fC f)[k]? = some (.bool (f k)) := by
  simp [fC, h]
theorem fC_set (f : Nat → Bool) {k : Nat} (h : k < 8) (v : Bool) : (fC f).setIfInBounds k (.bool v) = fC (fun i => if i = k then v else f i) := by
  apply Array.ext'
  apply List.ext_getElem?
  intro i
  simp only [fC, List.setIfInBounds_toArray, List.getElem?_set, List.getElem?_map, List.length_map, List.length_range, List.getElem?_range]
  by_cases hi : i < 8
  · by_cases hk : k = i
    · subst hk
      simp [h]
    · simp [hk, hi, Ne.symm hk]
  · have : k ≠ i := by omega
    simp [this, hi]
theorem fC_one (f : Nat → Bool) : ∀ v ∈ (fC f).toList, v.oneCell' = true := by
  intro v hv
  simp only [fC] at hv
  obtain ⟨i, _, rfl⟩ := List.mem_map.1 hv
  rfl
def fZ : Array Value := fC fun _ => false
theorem zero_f : (Tryd.prog.info? 37).map (·.zero) = some (some (.agg fZ)) := by kernel_rfl
theorem size_f (f : Nat → Bool) : (Tryd.prog.info? 37).map (·.size) = some (fC f).size := by
  rw [fC_size]
  kernel_rfl
theorem cell_of {w : World} {g i : Nat} {cs : Array Value} {t : TypeId} {fr : Nat × Nat} {v : Value} (h : w.heap[g]? = some (.cells cs t fr)) (hv : cs[i]? = some v) : w.cell? ⟨g, i, none⟩ = some v := by
  simp [World.cell?, h, hv]
theorem frozen_of {w : World} {g i : Nat} {cs : Array Value} {t : TypeId} (h : w.heap[g]? = some (.cells cs t (0, 0))) : w.frozen? ⟨g, i, none⟩ = false := by
  simp [World.frozen?, h]
theorem heap_setCell {w : World} {g i : Nat} {cs : Array Value} {t : TypeId} {fr : Nat × Nat} (v : Value) (h : w.heap[g]? = some (.cells cs t fr)) : (w.setCell ⟨g, i, none⟩ v).heap[g]? = some (.cells (cs.setIfInBounds i v) t fr) := by
  simp [World.setCell, Array.getElem?_modify, h]
theorem heap_setCell_ne {w : World} {g i k : Nat} (v : Value) (h : g ≠ k) : (w.setCell ⟨g, i, none⟩ v).heap[k]? = w.heap[k]? := by
  simp [World.setCell, Array.getElem?_modify, h]

theorem half_bit (a k : Nat) : (((a / 2 ^ k : Nat) : Int) % 2 == 1) = a.testBit k := by
  rw [Nat.testBit_eq_decide_div_mod_eq, Bool.eq_iff_iff]
  simp only [beq_iff_eq, decide_eq_true_eq]
  omega
theorem bits_step (a k : Nat) : (fun i => if i = k then a.testBit k else (decide (i < k) && a.testBit i)) = fun i => decide (i < k + 1) && a.testBit i := by
  funext i
  by_cases h : i = k
  · subst h
    simp
  · rw [if_neg h]
    have : decide (i < k) = decide (i < k + 1) := by rw [decide_eq_decide]; omega
    rw [this]

set_option maxRecDepth 20000 in
set_option maxHeartbeats 2000000 in
theorem bits_any (a : Nat) (ha : a < 256) (w : World) : Calls Tryd.prog 27 #[.int .u8 (a : Int)] w fun e w' => e = .returned (.agg (fC a.testBit)) ∧ Below w.heap.size w w' := by
  go_enter Tryd.func27, Tryd.ntmps27
  go_upto_region 1 with (refine wpList_alloc_zero rfl _ rfl fZ zero_f ?_; intro w0 hg0 hb0 hz0)
  have hlt0 : w.heap.size < w0.heap.size := by omega
  clear hz0
  go_wp2_with (refine wpList_alloc_zero rfl _ rfl fZ zero_f ?_; intro w1 hg1 hb1 hz1)
  have hlt1 : w0.heap.size < w1.heap.size := by omega
  have hg01 := (hb1.block w.heap.size hlt0).trans hg0
  have hB1 := hb0.trans (hb1.mono hb0.size)
  clear hz1 hg0
  have ha' : (a : Int) ≤ 255 := by omega
  go_loopw [4, 5] (fun n i wr => ∃ k : Nat, k ≤ 8 ∧ n = .int .i64 ((a / 2 ^ k : Nat) : Int) ∧ i = .int .i64 k ∧ Hid (wr.heap[w0.heap.size]? = some (.cells (fC (fun i => decide (i < k) && a.testBit i)) 37 (0, 0))) ∧ Hid (wr.heap[w.heap.size]? = some (.cells fZ 37 (0, 0))) ∧ Below w.heap.size w wr) (fun _ i _ => 8 - (intOf i).toNat)
  case atStart => exact ⟨0, by omega, by simp, rfl, by simpa [Hid, fZ] using hg1, hg01, hB1⟩
  case round =>
    obtain ⟨k, hk, rfl, rfl, hG, hZ, hB⟩ := hrel
    by_cases hlt : k < 8
    · have hc := cell_of hG.out (fC_at (fun i => decide (i < k) && a.testBit i) hlt)
      have hf := frozen_of (i := k) hG.out
      have hbit := half_bit a k
      have hset := heap_setCell (i := k) (.bool (a.testBit k)) hG.out
      rw [fC_set _ hlt, bits_step] at hset
      have hne := (heap_setCell_ne (i := k) (.bool (a.testBit k)) (Nat.ne_of_gt hlt0)).trans hZ.out
      have hBs := hB.setCell (show w.heap.size ≤ (⟨w0.heap.size, k, none⟩ : Addr).block from Nat.le_of_lt hlt0) (.bool (a.testBit k))
      have hnx : a / 2 ^ k / 2 = a / 2 ^ (k + 1) := by rw [Nat.div_div_eq_div_mul, Nat.pow_succ]
      obtain ⟨q, hq⟩ : ∃ q, a / 2 ^ k = q := ⟨_, rfl⟩
      rw [hq] at hbit hnx ⊢
      have hq8 : q ≤ 255 := by rw [← hq]; exact Nat.le_trans (Nat.div_le_self _ _) (by omega)
      obtain ⟨bk, hbk⟩ : ∃ bk, a.testBit k = bk := ⟨_, rfl⟩
      rw [hbk] at hbit hset hne hBs
      have HNX := Lib.hid hnx
      have HSet := Lib.hid hset
      have HNe := Lib.hid hne
      clear hnx hq hbk hset hne
      go_wp2_with fail
      go_roundw
      case rel =>
        refine ⟨k + 1, by omega, ?_, by go_num, HSet.out, HNe.out, hBs⟩
        rw [← HNX.out]
        congr 1
      case measure => simp [intOf]; omega
    · obtain rfl : k = 8 := by omega
      have hfull : (fun i => decide (i < 8) && a.testBit i) = a.testBit := by
        funext i
        by_cases h : i < 8
        · simp [h]
        · have : a.testBit i = false := Nat.testBit_lt_two_pow (Nat.lt_of_lt_of_le ha (Nat.pow_le_pow_right (n := 2) (by omega) (by omega : 8 ≤ i)))
          simp [this]
      rw [hfull] at hG
      go_wp2_with (first
        | (refine wpList_load_all rfl _ _ rfl w0.heap.size rfl _ _ _ _ hG.out Tryd.underlying37 rfl (size_f _) ?_)
        | (refine wpList_store_all rfl _ _ _ rfl w.heap.size rfl _ _ (fC a.testBit) rfl hZ.out (size_f _) ((fC_size _).trans (fC_size _).symm) (fC_one _) ?_; intro w3 hg3 hgr3 hz3))
      refine bodyPost_ret (results_cell_row rfl _ _ w.heap.size _ _ _ _ rfl hg3 Tryd.underlying37 rfl (size_f _)) rfl ?_
      exact ⟨rfl, hB.grown hgr3 hB.size (fun g hg => by injection hg with hg; omega)⟩

end Go.Proofs.YtegdepimddlphaaDoor
