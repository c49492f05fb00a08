/-
  The law ReplyReads.
-/
import Derived.Test.YtogkmlodcdgegaaDoorReN
import Derived.Test.YtogkmlodcdgegaaDoorReH
namespace Go.Proofs.YtogkmlodcdgegaaDoor
open Go.RowKit

set_option maxRecDepth 20000 in
set_option maxHeartbeats 4000000 in
theorem replyReads_walk {w : World} (ht : Tab w) (A : Option Addr) (n c : Nat) (l : List UInt8) (h : Rd w 1 A n c (l.map b8)) :
    Calls Tryd.prog 4 #[.slice A n c] w fun e w' => e = .returned (.bool true) ∧ Below w.heap.size w w' := by
  have HB := Lib.hid (begun_any w ht)
  have HT := Lib.hid (fun W (hb : Below w.heap.size w W) => ht.below hb)
  have HH := Lib.hid h
  have HLN := Lib.hid h.lenb
  clear h ht
  by_cases hn : (4096 : Int) < n
  · go_enter Tryd.func4, Tryd.ntmps4
    go_wp2_with fail
    refine HB.out.mono ?_
    rintro e w1 ⟨rfl, hb1⟩
    have hn' : decide ((4096 : Int) < n) = true := decide_eq_true hn
    clear hn
    go_wp2_with fail
    go_ret
    exact ⟨rfl, hb1⟩
  have hn' : decide ((4096 : Int) < n) = false := decide_eq_false hn
  have hn2 : n ≤ 4096 := by omega
  clear hn
  go_enter Tryd.func4, Tryd.ntmps4
  go_wp2_with fail
  refine HB.out.mono ?_
  rintro e w1 ⟨rfl, hb1⟩
  go_wp2_with fail
  refine (Twin_any A n c l _ (HH.out.below hb1) (by omega)).mono ?_
  rintro e w2 ⟨A2, rfl, ho2, hbl2⟩
  have hb2 := hb1.trans (hbl2.mono hb1.size)
  have hx2 : Rd w2 1 A2 n (n + 3) (l.map b8) := by
    have := (ho2.cut0 (hi := n) (by omega)).rd
    have e1 : ((l ++ e5).map b8).take n = l.map b8 := by
      rw [List.map_append, List.take_left' (by rw [List.length_map, HLN.out])]
    rwa [Nat.mul_one, e1] at this
  have hlt2 := fun g hg => (ho2.lt g hg).2
  have HTK := Lib.hid (Take_any hx2 (by omega) (run_small (by rw [HLN.out]; exact hn2)) (HT.out _ hb2))
  obtain ⟨R, hR⟩ : ∃ R, takeP l = R := ⟨_, rfl⟩
  rw [hR] at HTK
  have HR := Lib.hid hR
  clear hR
  go_wp2_with fail
  refine HTK.out.mono ?_
  rintro e w3 ⟨A3, n3, c3, rfl, ho3, hbl3⟩
  go_wp2_with (first
    | (refine wpList_alloc_zero rfl _ rfl rpZ zero_rp ?_; intro w4 hg4 hb4 hz4)
    | (refine wpList_store_all rfl _ _ _ rfl w3.heap.size rfl _ _ _ rfl hg4 (size_rp' _ _ _ _ _) rfl (rp_one _ _ _ _ _) ?_; intro w5 hg5 hgr5 hz5))
  have hb35 : Below w3.heap.size w3 w5 := hb4.grown hgr5 (by omega) (fun g hg => by obtain rfl := Option.some.inj hg; exact Nat.le_refl _)
  have hlt5 : w3.heap.size < w5.heap.size := by omega
  have hb25 := hbl3.trans (hb35.mono hbl3.size)
  have hb5 := hb2.trans (hb25.mono hb2.size)
  have HRT := Lib.hid (RTake_any (HH.out.below hb5) (by omega))
  rw [take_same, HR.out] at HRT
  have ho5 := ho3.below hb35
  clear hz4 hz5 hg4 hb4 hgr5 HTK
  go_wp2_with fail
  refine HRT.out.mono ?_
  rintro e w6 ⟨A6, n6, c6, rfl, ho6, hbl6⟩
  go_wp2_with (first
    | (refine wpList_alloc_zero rfl _ rfl rpZ zero_rp ?_; intro w7 hg7 hb7 hz7)
    | (refine wpList_store_all rfl _ _ _ rfl w6.heap.size rfl _ _ _ rfl hg7 (size_rp' _ _ _ _ _) rfl (rp_one _ _ _ _ _) ?_; intro w8 hg8 hgr8 hz8))
  have hb68 : Below w6.heap.size w6 w8 := hb7.grown hgr8 (by omega) (fun g hg => by obtain rfl := Option.some.inj hg; exact Nat.le_refl _)
  have hb58 := hbl6.trans (hb68.mono hbl6.size)
  have hb8' := hb5.trans (hb58.mono hb5.size)
  have hG5 := (hb58.block _ hlt5).trans hg5
  have ho58 := ho5.below hb58
  have ho68 := ho6.below hb68
  have ho28 := ho2.below (hb25.trans (hb58.mono hb25.size))
  have hs23 := hbl3.size
  have hs25 := hb25.size
  have hs6 := hbl6.size
  have hlt8 : w6.heap.size < w8.heap.size := by omega
  clear hz7 hz8 hg7 hb7 hgr8 HRT hg5
  have hEE : (R.e == R.e) = true := by simp
  have hNN : (R.n == R.n) = true := by simp
  have HKP := Lib.hid (Kept_true A2 n A c l _ ho28.rd (HH.out.below hb8') (by omega))
  go_wp2_with fail
  refine HKP.out.mono ?_
  rintro e w9 ⟨rfl, rfl⟩
  have HSP := Lib.hid (Spoil_any _ A2 n (n + 3) _ _ (ho28.cut0 (hi := n) (by omega)))
  go_wp2_with fail
  refine HSP.out.mono ?_
  rintro e w9 ⟨rfl, hg9, hz9⟩
  have hA2 := fun g hg => (ho28.lt g hg).1
  have hb9 := hb8'.grown hg9 hb8'.size (fun g hg => Nat.le_trans hb1.size (hA2 g hg))
  have hne : ∀ q, w2.heap.size ≤ q → blk A2 ≠ some q := fun q hq e => by
    have := hlt2 q e
    omega
  have hB4 : w9.heap[w3.heap.size]? = some (.cells (rpA R.v A3 n3 c3 R.c) 24 (0, 0)) := (hg9.block _ (by omega) (Ne.symm (hne _ hs23))).trans hG5
  have hB7 : w9.heap[w6.heap.size]? = some (.cells (rpA R.v A6 n6 c6 R.c) 24 (0, 0)) := (hg9.block _ hlt8 (Ne.symm (hne _ (by omega)))).trans hg8
  have s3 := str_rd (ho58.grown hg9 (fun q hq => hne q (by have := (ho58.lt q hq).1; omega))).rd
  have s6 := str_rd (ho68.grown hg9 (fun q hq => hne q (by have := (ho68.lt q hq).1; omega))).rd
  have k0 : w9.cell? ⟨w3.heap.size, 0, none⟩ = some (.int .i64 R.v) := cell_of hB4 rfl
  have k1 : w9.cell? ⟨w3.heap.size, 1, none⟩ = some (.slice A3 n3 c3) := cell_of hB4 rfl
  have k2 : w9.cell? ⟨w3.heap.size, 2, none⟩ = some (.bool R.c) := cell_of hB4 rfl
  have m0 : w9.cell? ⟨w6.heap.size, 0, none⟩ = some (.int .i64 R.v) := cell_of hB7 rfl
  have m1 : w9.cell? ⟨w6.heap.size, 1, none⟩ = some (.slice A6 n6 c6) := cell_of hB7 rfl
  have m2 : w9.cell? ⟨w6.heap.size, 2, none⟩ = some (.bool R.c) := cell_of hB7 rfl
  have hVV : (R.v == R.v) = true := by simp
  have hCC : (R.c == R.c) = true := by simp
  clear hB4 hB7 hg9 hz9 hG5 hg8 hs23 hs25 hs6 hlt8 hlt5
  go_wp2_with fail
  go_ret
  exact ⟨rfl, hb9⟩

end Go.Proofs.YtogkmlodcdgegaaDoor
