/-
  The document's Covers; the law RightsAll.
-/
import Derived.Test.YtegdepimddlphaaDoorRiH
namespace Go.Proofs.YtegdepimddlphaaDoor
open Go.RowKit

set_option maxRecDepth 20000 in
set_option maxHeartbeats 8000000 in
theorem RCovers_any (a b : Nat) (ha : a < 256) (hb : b < 256) (w : World) : Calls Tryd.prog 17 #[.int .u8 (a : Int), .int .u8 (b : Int)] w fun e w' => e = .returned (.bool (coversB a b)) ∧ Below w.heap.size w w' := by
  have HX := Lib.hid (bits_any a ha)
  have HY := Lib.hid (bits_any b hb)
  have hno : ∀ k, b.testBit k = true → a.testBit k = false → coversB a b = false := by
    intro k h1 h2
    cases hc : coversB a b
    · rfl
    · have := (covers_bit ha hb).1 hc k h1
      rw [h2] at this
      cases this
  have hyes : (∀ k, k < 8 → b.testBit k = true → a.testBit k = true) → coversB a b = true := by
    intro h
    refine (covers_bit ha hb).2 fun i hi => ?_
    by_cases h8 : i < 8
    · exact h i h8 hi
    · have : b.testBit i = false := Nat.testBit_lt_two_pow (Nat.lt_of_lt_of_le hb (Nat.pow_le_pow_right (n := 2) (by omega) (by omega : 8 ≤ i)))
      rw [this] at hi
      cases hi
  obtain ⟨x, hx⟩ : ∃ x, a.testBit = x := ⟨_, rfl⟩
  obtain ⟨y, hy⟩ : ∃ y, b.testBit = y := ⟨_, rfl⟩
  rw [hx] at HX
  rw [hy] at HY
  rw [hx, hy] at hno hyes
  have HNo := Lib.hid hno
  have HYes := Lib.hid hyes
  clear hx hy hno hyes
  go_enter Tryd.func17, Tryd.ntmps17
  go_wp2_with fail
  refine (HX.out _).mono ?_
  rintro e w1 ⟨rfl, hbl1⟩
  go_wp2_with fail
  refine (HY.out _).mono ?_
  rintro e w2 ⟨rfl, hbl2⟩
  have hB2 := hbl1.trans (hbl2.mono hbl1.size)
  have tok0 : True := trivial
  go_wp2_with (first
    | (have t := tok0; refine wpList_alloc_zero rfl _ rfl fZ zero_f ?_; clear t tok0; intro w3 hg3 hb3 hz3; have hlt3 : w2.heap.size < w3.heap.size := (by omega); clear hz3)
    | (refine wpList_alloc_zero rfl _ rfl fZ zero_f ?_; intro w4 hg4 hb4 hz4; have hlt4 : w3.heap.size < w4.heap.size := (by omega); clear hz4; have hg34 := (hb4.block w2.heap.size hlt3).trans hg3)
    | (refine wpList_store_all rfl _ _ _ rfl w2.heap.size rfl _ _ (fC x) rfl hg34 (size_f _) ((fC_size _).trans (fC_size _).symm) (fC_one _) ?_; intro w5 hg5 hgr5 hz5; have hg45 := (hgr5.block w3.heap.size hlt4 (fun e => by injection e with e; omega)).trans hg4; clear hz5)
    | (refine wpList_store_all rfl _ _ _ rfl w3.heap.size rfl _ _ (fC y) rfl hg45 (size_f _) ((fC_size _).trans (fC_size _).symm) (fC_one _) ?_; intro w6 hg6 hgr6 hz6; have hg56 := (hgr6.block w2.heap.size (by have := hgr5.size; omega) (fun e => by injection e with e; omega)).trans hg5; clear hz6))
  have hB4 := hB2.trans ((hb3.trans (hb4.mono hb3.size)).mono hB2.size)
  have hB5 := hB4.grown hgr5 hB4.size (fun g hg => by injection hg with hg; have := hB2.size; omega)
  have hB6 := hB5.grown hgr6 hB5.size (fun g hg => by injection hg with hg; have := hB2.size; omega)
  clear hg3 hb3 hg4 hb4 hg34 hg5 hgr5 hg45 hgr6 hlt4 hB4 hB5
  go_loop [7] (fun i => ∃ k : Nat, k ≤ 8 ∧ i = .int .i64 k ∧ Hid (∀ j, j < k → y j = true → x j = true)) (fun i => 8 - (intOf i).toNat)
  case atStart => exact ⟨0, by omega, rfl, (show ∀ j, j < 0 → _ from fun j h => absurd h (Nat.not_lt_zero j))⟩
  case round =>
    obtain ⟨k, hk, rfl, hH⟩ := hrel
    by_cases hlt : k < 8
    · have hc := cell_of hg56 (fC_at x hlt)
      have hd := cell_of hg6 (fC_at y hlt)
      obtain ⟨p, hp⟩ : ∃ p, x k = p := ⟨_, rfl⟩
      obtain ⟨q, hq⟩ : ∃ q, y k = q := ⟨_, rfl⟩
      have HN : Hid (q = true → p = false → coversB a b = false) := by
        show _ → _ → _
        intro h1 h2
        exact HNo.out k (hq.trans h1) (hp.trans h2)
      have HS : Hid ((q = true → p = true) → ∀ j, j < k + 1 → y j = true → x j = true) := by
        show _ → _
        intro h j hj hyj
        by_cases e : j = k
        · subst e
          rw [hp]
          exact h (hq.symm.trans hyj)
        · exact hH.out j (by omega) hyj
      rw [hp] at hc
      rw [hq] at hd
      clear hp hq
      cases q
      · go_wp2_with fail
        exact ⟨⟨k + 1, by omega, by go_num, HS.out (by simp)⟩, by simp [intOf]; omega⟩
      · cases p
        · go_wp2_with fail
          go_ret
          rw [HN.out (by simp) (by simp)]
          exact ⟨rfl, hB6⟩
        · go_wp2_with fail
          exact ⟨⟨k + 1, by omega, by go_num, HS.out (by simp)⟩, by simp [intOf]; omega⟩
    · obtain rfl : k = 8 := by omega
      have HC := Lib.hid (HYes.out hH.out)
      go_wp2_with fail
      go_ret
      rw [HC.out]
      exact ⟨rfl, hB6⟩

theorem RMay_any (a : Nat) (w : World) : Calls Tryd.prog 16 #[.int .u8 (a : Int)] w fun e w' => e = .returned (.bool (decide (a < 16))) ∧ w = w' := by
  by_cases h : a < 16
  · rw [decide_eq_true h]
    have h' : (a : Int) < 16 := by omega
    go_enter Tryd.func16, Tryd.ntmps16
    go_wp2_with fail
    go_ret
    exact ⟨rfl, rfl⟩
  · rw [decide_eq_false h]
    have h' : decide ((a : Int) < 16) = false := by
      simp
      omega
    clear h
    go_enter Tryd.func16, Tryd.ntmps16
    go_wp2_with fail
    go_ret
    exact ⟨rfl, rfl⟩

set_option maxHeartbeats 4000000 in
theorem rightsAll_nat {w : World} (a b : Nat) (ha : a < 256) (hb : b < 256) (ht : Tab w) : Calls Tryd.prog 6 #[.int .u8 (a : Int), .int .u8 (b : Int)] w fun e w' => e = .returned (.bool true) ∧ Below w.heap.size w w' := by
  have M1 := Lib.hid (fun w => May_any a ha w)
  have M2 := Lib.hid (fun w => RMay_any a w)
  have C1 := Lib.hid (fun w => Covers_any a b ha hb w)
  have C2 := Lib.hid (fun w => RCovers_any a b ha hb w)
  have N1 := Lib.hid (fun w => Meet_any a b ha hb w)
  have N2 := Lib.hid (fun w => RMeet_any a b ha hb w)
  have J1 := Lib.hid (fun w => Join_any a b ha hb w)
  have J2 := Lib.hid (fun w => RJoin_any a b ha hb w)
  have W1 := Lib.hid (fun w h => Word_any a ha w h)
  have W2 := Lib.hid (fun w => RWord_any a ha w)
  have HT := Lib.hid ht
  obtain ⟨m, hm⟩ : ∃ m, decide (a < 16) = m := ⟨_, rfl⟩
  obtain ⟨c, hc⟩ : ∃ c, coversB a b = c := ⟨_, rfl⟩
  obtain ⟨n, hn⟩ : ∃ n, a &&& b = n := ⟨_, rfl⟩
  obtain ⟨j, hj⟩ : ∃ j, a ||| b = j := ⟨_, rfl⟩
  obtain ⟨s, hs⟩ : ∃ s, wordA a = s := ⟨_, rfl⟩
  rw [hm] at M1 M2
  rw [hc] at C1 C2
  rw [hn] at N1 N2
  rw [hj] at J1 J2
  rw [hs] at W1 W2
  clear hm hc hn hj hs ht
  go_enter Tryd.func6, Tryd.ntmps6
  go_wp2_with (first
    | (go_at_call 8; refine (begun_any _).mono ?_; rintro e w1 ⟨rfl, rfl⟩)
    | (go_at_call 12; refine (M1.out _).mono ?_; rintro e w1 ⟨rfl, rfl⟩)
    | (go_at_call 16; refine (M2.out _).mono ?_; rintro e w1 ⟨rfl, rfl⟩)
    | (go_at_call 15; refine (C1.out _).mono ?_; rintro e w1 ⟨rfl, rfl⟩)
    | (go_at_call 17; refine (C2.out _).mono ?_; rintro e w2 ⟨rfl, hb2⟩)
    | (go_at_call 13; refine (N1.out _).mono ?_; rintro e w1 ⟨rfl, rfl⟩)
    | (go_at_call 18; refine (N2.out _).mono ?_; rintro e w3 ⟨rfl, hb3⟩; have hB3 := hb2.trans (hb3.mono hb2.size))
    | (go_at_call 14; refine (J1.out _).mono ?_; rintro e w1 ⟨rfl, rfl⟩)
    | (go_at_call 19; refine (J2.out _).mono ?_; rintro e w4 ⟨rfl, hb4⟩; have hB4 := hB3.trans (hb4.mono hB3.size))
    | (go_at_call 11; refine (W1.out _ (HT.out.below hB4)).mono ?_; rintro e w5 ⟨rfl, hb5⟩; have hB5 := hB4.trans (hb5.mono hB4.size))
    | (go_at_call 20; refine (W2.out _).mono ?_; rintro e w1 ⟨rfl, rfl⟩))
  go_ret
  exact ⟨rfl, hB5⟩
theorem rightsAll_walk {w : World} (ht : Tab w) (a : Int) (a0 : 0 ≤ a) (a1 : a ≤ 255) (b : Int) (b0 : 0 ≤ b) (b1 : b ≤ 255) : Calls Tryd.prog 6 #[.int .u8 a, .int .u8 b] w fun e w' => e = .returned (.bool true) ∧ Below w.heap.size w w' := by
  obtain ⟨x, rfl⟩ := Int.eq_ofNat_of_zero_le a0
  obtain ⟨y, rfl⟩ := Int.eq_ofNat_of_zero_le b0
  exact rightsAll_nat x y (by omega) (by omega) ht

end Go.Proofs.YtegdepimddlphaaDoor
