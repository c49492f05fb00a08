/-
  The document's Covers, Meet, Join.
-/
import Derived.Test.YtegdepimddlphaaDoorRiG
namespace Go.Proofs.YtegdepimddlphaaDoor
open Go.RowKit

/-- The set of bits. -/
def ofK (f : Nat → Bool) : Nat → Nat
  | 0 => 0
  | k + 1 => ofK f k + if f k then 2 ^ k else 0
theorem ofK_lt (f : Nat → Bool) : ∀ k, ofK f k < 2 ^ k
  | 0 => by simp [ofK]
  | k + 1 => by
    have := ofK_lt f k
    rw [ofK, Nat.pow_succ]
    split <;> omega
theorem ofK_fin : ∀ a : Fin 256, ofK a.1.testBit 8 = a.1 := by decide +kernel
theorem pow8 {k : Nat} (h : k ≤ 8) : 2 ^ k ≤ 256 := by
  have h2 : 2 ^ k ≤ 2 ^ 8 := Nat.pow_le_pow_right (by omega) h
  exact h2

set_option maxRecDepth 20000 in
set_option maxHeartbeats 2000000 in
theorem of_any (f : Nat → Bool) (w : World) : Calls Tryd.prog 28 #[.agg (fC f)] w fun e w' => e = .returned (.int .u8 (ofK f 8 : Nat)) ∧ Below w.heap.size w w' := by
  go_enter Tryd.func28, Tryd.ntmps28
  go_wp2_with (refine wpList_box rfl _ _ rfl (fC f) rfl ?_; intro w0 hg0 hb0 hz0)
  clear hz0
  go_loop [3, 4, 5] (fun n u i => ∃ (k U N : Nat), k ≤ 8 ∧ U ≤ 256 ∧ N ≤ 255 ∧ n = .int .i64 N ∧ u = .int .i64 U ∧ i = .int .i64 k ∧ Hid (U = 2 ^ k) ∧ Hid (N = ofK f k)) (fun _ _ i => 8 - (intOf i).toNat)
  case atStart => exact ⟨0, 1, 0, by omega, by omega, by omega, rfl, rfl, rfl, rfl, rfl⟩
  case round =>
    obtain ⟨k, U, N, hk, hU, hN, rfl, rfl, rfl, hUe, hNe⟩ := hrel
    by_cases hlt : k < 8
    · have hc := cell_of hg0 (fC_at f hlt)
      have hp := pow8 (show k + 1 ≤ 8 by omega)
      have hl1 := ofK_lt f (k + 1)
      have hUe2 : U * 2 = 2 ^ (k + 1) := by rw [Nat.pow_succ, hUe.out]
      have hNe2 : ofK f (k + 1) = N + if f k then U else 0 := by rw [ofK, hNe.out, hUe.out]
      have HU2 := Lib.hid hUe2
      have HN2 := Lib.hid hNe2
      have hb1 : U * 2 ≤ 256 := by omega
      obtain ⟨b, hb⟩ : ∃ b, f k = b := ⟨_, rfl⟩
      rw [hb] at hc HN2
      have hb2 : (N + if b then U else 0) ≤ 255 := by
        have h1 := HN2.out
        have h2 := HU2.out
        omega
      clear hb hp hl1 hUe2 hNe2
      cases b
      · have hb3 : N ≤ 255 := by omega
        clear hb2
        go_wp2_with fail
        refine ⟨⟨k + 1, U * 2, N, by omega, hb1, hb3, rfl, by go_num, by go_num, HU2.out, ?_⟩, by simp [intOf]; omega⟩
        show _ = _
        rw [HN2.out]
        rfl
      · have hb3 : N + U ≤ 255 := by simpa using hb2
        clear hb2
        go_wp2_with fail
        refine ⟨⟨k + 1, U * 2, N + U, by omega, hb1, hb3, by go_num, by go_num, by go_num, HU2.out, ?_⟩, by simp [intOf]; omega⟩
        show _ = _
        rw [HN2.out]
        rfl
    · obtain rfl : k = 8 := by omega
      go_wp2_with fail
      go_ret
      rw [← hNe.out]
      exact ⟨rfl, hb0⟩

theorem meet_step (x y : Nat → Bool) (k : Nat) : (fun i => if i = k then (x k && y k) else (if i < k then (x i && y i) else x i)) = fun i => if i < k + 1 then (x i && y i) else x i := by
  funext i
  by_cases h : i = k
  · subst h
    rw [if_pos rfl, if_pos (by omega)]
  · rw [if_neg h]
    by_cases h2 : i < k
    · rw [if_pos h2, if_pos (by omega)]
    · rw [if_neg h2, if_neg (by omega)]
theorem join_step (x y : Nat → Bool) (k : Nat) : (fun i => if i = k then (x k || y k) else (if i < k then (x i || y i) else x i)) = fun i => if i < k + 1 then (x i || y i) else x i := by
  funext i
  by_cases h : i = k
  · subst h
    rw [if_pos rfl, if_pos (by omega)]
  · rw [if_neg h]
    by_cases h2 : i < k
    · rw [if_pos h2, if_pos (by omega)]
    · rw [if_neg h2, if_neg (by omega)]
theorem fC_ext {f g : Nat → Bool} (h : ∀ i, i < 8 → f i = g i) : fC f = fC g := by
  unfold fC
  congr 1
  apply List.map_congr_left
  intro i hi
  rw [h i (by simpa using hi)]

set_option maxRecDepth 20000 in
set_option maxHeartbeats 8000000 in
theorem RMeet_any (a b : Nat) (ha : a < 256) (hb : b < 256) (w : World) : Calls Tryd.prog 18 #[.int .u8 (a : Int), .int .u8 (b : Int)] w fun e w' => e = .returned (.int .u8 ((a &&& b : Nat) : Int)) ∧ Below w.heap.size w w' := by
  have HX := Lib.hid (bits_any a ha)
  have HY := Lib.hid (bits_any b hb)
  obtain ⟨x, hx⟩ : ∃ x, a.testBit = x := ⟨_, rfl⟩
  obtain ⟨y, hy⟩ : ∃ y, b.testBit = y := ⟨_, rfl⟩
  have HR : Hid (ofK (fun i => x i && y i) 8 = a &&& b) := by
    show _ = _
    have h := ofK_fin ⟨a &&& b, and_lt ha⟩
    dsimp only at h
    have e : (fun i => x i && y i) = (a &&& b).testBit := by
      funext i
      rw [Nat.testBit_and, hx, hy]
    rw [e, h]
  rw [hx] at HX
  rw [hy] at HY
  clear hx hy
  go_enter Tryd.func18, Tryd.ntmps18
  go_wp2_with fail
  refine (HX.out _).mono ?_
  rintro e w1 ⟨rfl, hbl1⟩
  go_wp2_with fail
  refine (HY.out _).mono ?_
  rintro e w2 ⟨rfl, hbl2⟩
  have hB2 := hbl1.trans (hbl2.mono hbl1.size)
  have tok0 : True := trivial
  go_wp2_with (first
    | (have t := tok0; refine wpList_alloc_zero rfl _ rfl fZ zero_f ?_; clear t tok0; intro w3 hg3 hb3 hz3; have hlt3 : w2.heap.size < w3.heap.size := (by omega); clear hz3)
    | (refine wpList_alloc_zero rfl _ rfl fZ zero_f ?_; intro w4 hg4 hb4 hz4; have hlt4 : w3.heap.size < w4.heap.size := (by omega); clear hz4; have hg34 := (hb4.block w2.heap.size hlt3).trans hg3)
    | (refine wpList_store_all rfl _ _ _ rfl w2.heap.size rfl _ _ (fC x) rfl hg34 (size_f _) ((fC_size _).trans (fC_size _).symm) (fC_one _) ?_; intro w5 hg5 hgr5 hz5; have hg45 := (hgr5.block w3.heap.size hlt4 (fun e => by injection e with e; omega)).trans hg4; clear hz5)
    | (refine wpList_store_all rfl _ _ _ rfl w3.heap.size rfl _ _ (fC y) rfl hg45 (size_f _) ((fC_size _).trans (fC_size _).symm) (fC_one _) ?_; intro w6 hg6 hgr6 hz6; have hg56 := (hgr6.block w2.heap.size (by have := hgr5.size; omega) (fun e => by injection e with e; omega)).trans hg5; clear hz6))
  have hB4 := hB2.trans ((hb3.trans (hb4.mono hb3.size)).mono hB2.size)
  have hB5 := hB4.grown hgr5 hB4.size (fun g hg => by injection hg with hg; have := hB2.size; omega)
  have hB6 := hB5.grown hgr6 hB5.size (fun g hg => by injection hg with hg; have := hB2.size; omega)
  have hws := hB2.size
  clear hg3 hb3 hg4 hb4 hg34 hg5 hgr5 hg45 hgr6 hlt4 hB4 hB5
  go_loopw [7] (fun i wr => ∃ k : Nat, k ≤ 8 ∧ i = .int .i64 k ∧ Hid (wr.heap[w2.heap.size]? = some (.cells (fC (fun i => if i < k then (x i && y i) else x i)) 37 (0, 0))) ∧ Hid (wr.heap[w3.heap.size]? = some (.cells (fC y) 37 (0, 0))) ∧ Below w.heap.size w wr) (fun i _ => 8 - (intOf i).toNat)
  case atStart => exact ⟨0, by omega, rfl, by simpa [Hid] using hg56, hg6, hB6⟩
  case round =>
    obtain ⟨k, hk, rfl, hG, hZ, hB⟩ := hrel
    by_cases hlt : k < 8
    · have hc := cell_of hG.out (fC_at (fun i => if i < k then (x i && y i) else x i) hlt)
      rw [if_neg (Nat.lt_irrefl k)] at hc
      have hf := frozen_of (i := k) hG.out
      have hd := cell_of hZ.out (fC_at y hlt)
      have hset := heap_setCell (i := k) (.bool (x k && y k)) hG.out
      rw [fC_set _ hlt, meet_step] at hset
      have hne := (heap_setCell_ne (i := k) (.bool (x k && y k)) (Nat.ne_of_lt hlt3)).trans hZ.out
      have hBs := hB.setCell (show w.heap.size ≤ (⟨w2.heap.size, k, none⟩ : Addr).block from hws) (.bool (x k && y k))
      have HSet := Lib.hid hset
      have HNe := Lib.hid hne
      clear hset hne
      obtain ⟨p, hp⟩ : ∃ p, x k = p := ⟨_, rfl⟩
      obtain ⟨q, hq⟩ : ∃ q, y k = q := ⟨_, rfl⟩
      rw [hp] at hc
      rw [hq] at hd
      rw [hp, hq] at HSet HNe hBs
      clear hp hq
      cases p
      all_goals cases q
      all_goals
        go_wp2_with fail
        go_roundw
        case rel => exact ⟨k + 1, by omega, by go_num, HSet.out, HNe.out, hBs⟩
        case measure => simp [intOf]; omega
    · obtain rfl : k = 8 := by omega
      have hfull : fC (fun i => if i < 8 then (x i && y i) else x i) = fC (fun i => x i && y i) := fC_ext fun i hi => if_pos hi
      rw [hfull] at hG
      go_wp2_with (refine wpList_load_all rfl _ _ rfl w2.heap.size rfl _ _ _ _ hG.out Tryd.underlying37 rfl (size_f _) ?_)
      refine (of_any _ _).mono ?_
      rintro e w7 ⟨rfl, hbl7⟩
      go_wp2_with fail
      go_ret
      rw [HR.out]
      exact ⟨rfl, hB.trans (hbl7.mono hB.size)⟩

set_option maxRecDepth 20000 in
set_option maxHeartbeats 8000000 in
theorem RJoin_any (a b : Nat) (ha : a < 256) (hb : b < 256) (w : World) : Calls Tryd.prog 19 #[.int .u8 (a : Int), .int .u8 (b : Int)] w fun e w' => e = .returned (.int .u8 ((a ||| b : Nat) : Int)) ∧ Below w.heap.size w w' := by
  have HX := Lib.hid (bits_any a ha)
  have HY := Lib.hid (bits_any b hb)
  obtain ⟨x, hx⟩ : ∃ x, a.testBit = x := ⟨_, rfl⟩
  obtain ⟨y, hy⟩ : ∃ y, b.testBit = y := ⟨_, rfl⟩
  have HR : Hid (ofK (fun i => x i || y i) 8 = a ||| b) := by
    show _ = _
    have h := ofK_fin ⟨a ||| b, or_lt ha hb⟩
    dsimp only at h
    have e : (fun i => x i || y i) = (a ||| b).testBit := by
      funext i
      rw [Nat.testBit_or, hx, hy]
    rw [e, h]
  rw [hx] at HX
  rw [hy] at HY
  clear hx hy
  go_enter Tryd.func19, Tryd.ntmps19
  go_wp2_with fail
  refine (HX.out _).mono ?_
  rintro e w1 ⟨rfl, hbl1⟩
  go_wp2_with fail
  refine (HY.out _).mono ?_
  rintro e w2 ⟨rfl, hbl2⟩
  have hB2 := hbl1.trans (hbl2.mono hbl1.size)
  have tok0 : True := trivial
  go_wp2_with (first
    | (have t := tok0; refine wpList_alloc_zero rfl _ rfl fZ zero_f ?_; clear t tok0; intro w3 hg3 hb3 hz3; have hlt3 : w2.heap.size < w3.heap.size := (by omega); clear hz3)
    | (refine wpList_alloc_zero rfl _ rfl fZ zero_f ?_; intro w4 hg4 hb4 hz4; have hlt4 : w3.heap.size < w4.heap.size := (by omega); clear hz4; have hg34 := (hb4.block w2.heap.size hlt3).trans hg3)
    | (refine wpList_store_all rfl _ _ _ rfl w2.heap.size rfl _ _ (fC x) rfl hg34 (size_f _) ((fC_size _).trans (fC_size _).symm) (fC_one _) ?_; intro w5 hg5 hgr5 hz5; have hg45 := (hgr5.block w3.heap.size hlt4 (fun e => by injection e with e; omega)).trans hg4; clear hz5)
    | (refine wpList_store_all rfl _ _ _ rfl w3.heap.size rfl _ _ (fC y) rfl hg45 (size_f _) ((fC_size _).trans (fC_size _).symm) (fC_one _) ?_; intro w6 hg6 hgr6 hz6; have hg56 := (hgr6.block w2.heap.size (by have := hgr5.size; omega) (fun e => by injection e with e; omega)).trans hg5; clear hz6))
  have hB4 := hB2.trans ((hb3.trans (hb4.mono hb3.size)).mono hB2.size)
  have hB5 := hB4.grown hgr5 hB4.size (fun g hg => by injection hg with hg; have := hB2.size; omega)
  have hB6 := hB5.grown hgr6 hB5.size (fun g hg => by injection hg with hg; have := hB2.size; omega)
  have hws := hB2.size
  clear hg3 hb3 hg4 hb4 hg34 hg5 hgr5 hg45 hgr6 hlt4 hB4 hB5
  go_loopw [7] (fun i wr => ∃ k : Nat, k ≤ 8 ∧ i = .int .i64 k ∧ Hid (wr.heap[w2.heap.size]? = some (.cells (fC (fun i => if i < k then (x i || y i) else x i)) 37 (0, 0))) ∧ Hid (wr.heap[w3.heap.size]? = some (.cells (fC y) 37 (0, 0))) ∧ Below w.heap.size w wr) (fun i _ => 8 - (intOf i).toNat)
  case atStart => exact ⟨0, by omega, rfl, by simpa [Hid] using hg56, hg6, hB6⟩
  case round =>
    obtain ⟨k, hk, rfl, hG, hZ, hB⟩ := hrel
    by_cases hlt : k < 8
    · have hc := cell_of hG.out (fC_at (fun i => if i < k then (x i || y i) else x i) hlt)
      rw [if_neg (Nat.lt_irrefl k)] at hc
      have hf := frozen_of (i := k) hG.out
      have hd := cell_of hZ.out (fC_at y hlt)
      have hset := heap_setCell (i := k) (.bool (x k || y k)) hG.out
      rw [fC_set _ hlt, join_step] at hset
      have hne := (heap_setCell_ne (i := k) (.bool (x k || y k)) (Nat.ne_of_lt hlt3)).trans hZ.out
      have hBs := hB.setCell (show w.heap.size ≤ (⟨w2.heap.size, k, none⟩ : Addr).block from hws) (.bool (x k || y k))
      have HSet := Lib.hid hset
      have HNe := Lib.hid hne
      clear hset hne
      obtain ⟨p, hp⟩ : ∃ p, x k = p := ⟨_, rfl⟩
      obtain ⟨q, hq⟩ : ∃ q, y k = q := ⟨_, rfl⟩
      rw [hp] at hc
      rw [hq] at hd
      rw [hp, hq] at HSet HNe hBs
      clear hp hq
      cases p
      all_goals cases q
      all_goals
        go_wp2_with fail
        go_roundw
        case rel => exact ⟨k + 1, by omega, by go_num, HSet.out, HNe.out, hBs⟩
        case measure => simp [intOf]; omega
    · obtain rfl : k = 8 := by omega
      have hfull : fC (fun i => if i < 8 then (x i || y i) else x i) = fC (fun i => x i || y i) := fC_ext fun i hi => if_pos hi
      rw [hfull] at hG
      go_wp2_with (refine wpList_load_all rfl _ _ rfl w2.heap.size rfl _ _ _ _ hG.out Tryd.underlying37 rfl (size_f _) ?_)
      refine (of_any _ _).mono ?_
      rintro e w7 ⟨rfl, hbl7⟩
      go_wp2_with fail
      go_ret
      rw [HR.out]
      exact ⟨rfl, hB.trans (hbl7.mono hB.size)⟩

end Go.Proofs.YtegdepimddlphaaDoor
