/-
  The law ReplyWrites.
-/
import Derived.Test.YtogkmlodcdgegaaDoorReP
namespace Go.Proofs.YtogkmlodcdgegaaDoor
open Go.RowKit

set_option maxRecDepth 20000 in
set_option maxHeartbeats 16000000 in
theorem replyWrites_walk {w : World} (ht : Tab w) (v : Int) (A : Option Addr) (n c : Nat) (l : List UInt8) (b : Bool) (_ : -9223372036854775808 ≤ v) (_ : v ≤ 9223372036854775807) (h : Rd w 1 A n c (l.map b8)) :
    Calls Tryd.prog 3 #[.agg (rpA v A n c b)] w fun e w' => e = .returned (.bool true) ∧ Below w.heap.size w w' := by
  have HB := Lib.hid (fun W (hb : Below w.heap.size w W) => begun_any W (ht.below hb))
  have HT := Lib.hid (fun W (hb : Below w.heap.size w W) => ht.below hb)
  have HH := Lib.hid h
  have HLN := Lib.hid h.lenb
  clear h ht
  by_cases q1 : (8192 : Int) < n
  · go_enter Tryd.func3, Tryd.ntmps3
    go_wp2_with (refine wpList_box rfl _ _ rfl (rpA v A n c b) rfl ?_; intro w1 hg1 hb1 hz1)
    refine (HB.out _ hb1).mono ?_
    rintro e w2 ⟨rfl, hb2⟩
    obtain ⟨_, _, a1, _⟩ := rp_0 hg1 (hb2.block _ (by omega))
    have hB2 := hb1.trans (hb2.mono hb1.size)
    have q1' : decide ((8192 : Int) < n) = true := decide_eq_true q1
    clear q1 hz1 hb2 hg1
    go_wp2_with fail
    go_ret
    exact ⟨rfl, hB2⟩
  have q1' : decide ((8192 : Int) < n) = false := decide_eq_false q1
  have n8 : n ≤ 8192 := by omega
  clear q1
  go_enter Tryd.func3, Tryd.ntmps3
  go_wp2_with (refine wpList_box rfl _ _ rfl (rpA v A n c b) rfl ?_; intro w1 hg1 hb1 hz1)
  refine (HB.out _ hb1).mono ?_
  rintro e w2 ⟨rfl, hb2⟩
  obtain ⟨hG2, a0, a1, a2⟩ := rp_0 hg1 (hb2.block _ (by omega))
  have hB2 := hb1.trans (hb2.mono hb1.size)
  have hlt2 : w.heap.size < w2.heap.size := by have := hb2.size; omega
  have HG2 := Lib.hid hG2
  clear hz1 hb2 hg1 hb1 hG2 a0 a2
  go_wp2_with (first
    | (refine wpList_load_all rfl _ _ rfl w.heap.size rfl _ (rpA v A n c b) _ _ HG2.out Tryd.underlying24 rfl (size_rp' _ _ _ _ _) ?_)
    | (refine wpList_alloc_zero rfl _ rfl rpZ zero_rp ?_; intro w3 hg3 hb3 hz3)
    | (refine wpList_store_all rfl _ _ _ rfl w2.heap.size rfl _ rpZ (rpA v A n c b) rfl hg3 (size_rp' _ _ _ _ _) rfl (rp_one _ _ _ _ _) ?_; intro w4 hg4 hgr4 hz4; have hb24 : Below w2.heap.size w2 w4 := (hb3.grown hgr4 (by omega) (fun g hg => by obtain rfl := Option.some.inj hg; exact Nat.le_refl _)); have hlt4 : w2.heap.size < w4.heap.size := (by omega); have hg24 := (hb24.block _ hlt2).trans HG2.out; have HG4 := Lib.hid hg4; have HG24 := Lib.hid hg24; have a1' := (rp_0 hg24 rfl).2.2.1; clear hz3 hz4 hg3 hb3 hgr4 hg4 hg24 a1))
  have hB4 := hB2.trans (hb24.mono hB2.size)
  have HTW := Lib.hid (Twin_any A n c l _ (HH.out.below hB4) (by omega))
  refine HTW.out.mono ?_
  rintro e w5 ⟨A5, rfl, ho5, hbl5⟩
  have hB5 := hB4.trans (hbl5.mono hB4.size)
  have hG5 := (hbl5.block _ hlt4).trans HG4.out
  have hGW := (hbl5.block _ (by omega)).trans HG24.out
  have c51 : w5.cell? ⟨w2.heap.size, 1, none⟩ = some (.slice A n c) := cell_of hG5 rfl
  have f51 : w5.frozen? ⟨w2.heap.size, 1, none⟩ = false := by
    simp [World.frozen?, hG5]
  clear a1'
  go_upto_region 7 with fail
  obtain ⟨w6, hw6⟩ : ∃ w6, w5.setCell ⟨w2.heap.size, 1, none⟩ (.slice A5 n (n + 3)) = w6 := ⟨_, rfl⟩
  rw [hw6]
  have hA5 := fun q hq => ho5.lt q hq
  have hX : w6.heap[w2.heap.size]? = some (.cells (rpA v A5 n (n + 3) b) 24 (0, 0)) := by
    rw [← hw6]
    simp [World.setCell, Array.getElem?_modify, hG5, rpA]
  have hY : w6.heap[w.heap.size]? = some (.cells (rpA v A n c b) 24 (0, 0)) := by
    rw [← hw6]
    have : w2.heap.size ≠ w.heap.size := by omega
    simp [World.setCell, Array.getElem?_modify, this, hGW]
  have ho6 : Own w6 w4.heap.size 5 1 A5 (n + 3) (n + 3) ((l ++ e5).map b8) := by
    rw [← hw6]
    refine ho5.keep fun k hk _ _ => ?_
    have : w2.heap.size ≠ k := by
      have := (hA5 k hk).1
      omega
    simp [World.setCell, Array.getElem?_modify, this]
  have hB6 : Below w.heap.size w w6 := by rw [← hw6]; exact hB5.setCell (Nat.le_of_lt hlt2) _
  have hz6 : w5.heap.size = w6.heap.size := by rw [← hw6]; simp
  have hlt6 : w2.heap.size < w6.heap.size := by have := hbl5.size; omega
  have hlt46 : w4.heap.size ≤ w6.heap.size := by have := hbl5.size; omega
  obtain ⟨g3, hg3⟩ : ∃ g3, w2.heap.size = g3 := ⟨_, rfl⟩
  rw [hg3] at hX hlt6 hlt2 ⊢
  obtain ⟨E, hE⟩ : ∃ E, (bytesR v l b).2 = E := ⟨_, rfl⟩
  obtain ⟨XB, hXB⟩ : ∃ XB, (bytesR v l b).1 = XB := ⟨_, rfl⟩
  have HX := Lib.hid hX
  have HY := Lib.hid hY
  have HE := Lib.hid hE
  have HXB := Lib.hid hXB
  have hEE : (E != E) = false := by simp
  clear hw6 hA5 hX hY hz6 hg3 hE hXB c51 f51 hG5 hGW ho5 hbl5 HTW HG4 HG24 hlt4 hb24 HG2 hB4 hB5 hB2
  go_wp2_with fail
  go_loopw [4] (fun i wr => ∃ j : Nat, j ≤ 2 ∧ i = .int .i64 j ∧ Below w6.heap.size w6 wr) (fun i _ => 2 - (intOf i).toNat)
  case atStart => exact ⟨0, by omega, rfl, Below.refl _ _⟩
  case round =>
    obtain ⟨j, hj, rfl, hb⟩ := hrel
    by_cases hj2 : j < 2
    · have hj' : (j : Int) < 2 := by omega
      have hx0 : Rd w6 1 A5 n (n + 3) (l.map b8) := by
        have := (ho6.cut0 (hi := n) (by omega)).rd
        have e1 : ((l ++ e5).map b8).take n = l.map b8 := by
          rw [List.map_append, List.take_left' (by rw [List.length_map, HLN.out])]
        rwa [Nat.mul_one, e1] at this
      have hBr := hB6.trans (hb.mono hB6.size)
      have hXr := (hb.block _ hlt6).trans HX.out
      have hYr := (hb.block _ (by omega)).trans HY.out
      have HXr := Lib.hid hXr
      have HYr := Lib.hid hYr
      have HB1 := Lib.hid (Bytes_any (hx0.below hb) (by omega) v b (HT.out _ hBr))
      rw [HE.out, HXB.out] at HB1
      clear hXr hYr hj2 hx0
      go_wp2_with (refine wpList_load_all rfl _ _ rfl g3 rfl _ (rpA v A5 n (n + 3) b) _ _ HXr.out Tryd.underlying24 rfl (size_rp' _ _ _ _ _) ?_)
      refine HB1.out.mono ?_
      rintro e w7 ⟨A7, n7, c7, rfl, ho7, hbl7⟩
      have hb7 := hb.trans (hbl7.mono hb.size)
      have hB7 := hBr.trans (hbl7.mono hBr.size)
      have hltr : g3 < wr.heap.size := Nat.lt_of_lt_of_le hlt6 hb.size
      have hY7 := (hbl7.block _ (by omega)).trans HYr.out
      have hX7 := (hbl7.block _ hltr).trans HXr.out
      have HY7 := Lib.hid hY7
      have HX7 := Lib.hid hX7
      have HB2 := Lib.hid (RBytes_any (HH.out.below hB7) (by omega) v b)
      rw [HE.out, HXB.out] at HB2
      clear hY7 hX7 HXr HYr HB1
      go_wp2_with (refine wpList_load_all rfl _ _ rfl w.heap.size rfl _ (rpA v A n c b) _ _ HY7.out Tryd.underlying24 rfl (size_rp' _ _ _ _ _) ?_)
      refine HB2.out.mono ?_
      rintro e w8 ⟨A8, n8', c8, rfl, ho8, hbl8⟩
      have hb8 := hb7.trans (hbl8.mono hb7.size)
      have hB8 := hB7.trans (hbl8.mono hB7.size)
      have hs8 := hbl8.size
      have hs7 := hbl7.size
      have hY8 := (hbl8.block _ (by omega)).trans HY7.out
      have hX8 := (hbl8.block _ (by omega)).trans HX7.out
      have ho78 := ho7.below hbl8
      have s7 := fun x : Later w8 => str_rd (ho78.below x.below).rd
      have s8 := fun x : Later w8 => str_rd (ho8.below x.below).rd
      have y0 : ∀ x : Later w8, x.at'.cell? ⟨w.heap.size, 0, none⟩ = some (.int .i64 v) := fun x => cell_of ((x.below.block _ (by omega)).trans hY8) rfl
      have y1 : ∀ x : Later w8, x.at'.cell? ⟨w.heap.size, 1, none⟩ = some (.slice A n c) := fun x => cell_of ((x.below.block _ (by omega)).trans hY8) rfl
      have x1 : ∀ x : Later w8, x.at'.cell? ⟨g3, 1, none⟩ = some (.slice A5 n (n + 3)) := fun x => cell_of ((x.below.block _ (by omega)).trans hX8) rfl
      have hd8 := (Below.refl w8.heap.size w8).drew
      have hk8 := ho6.below hb8
      have hh8 := HH.out.below hB8
      clear HB2 HY7 HX7 hY8 hX8 hbl7
      go_wp2_with fail
      refine wp_region_mixb [0, 1, 2, 3, 4, 5, 6, 7, 8, 9, 10, 11, 12, 14, 15, 13, 16, 17, 18, 19, 20, 21, 22, 23, 24, 25, 26] (by kernel_rfl) (by kernel_rfl) (by rfl) (by kernel_rfl) (fun _ _ _ _ _ h => h) ?_
      iterate 15 (refine mix_read (o := ⟨_, _, _, _, _, _⟩) (by rfl) (by rfl) ?_; go_big_quiet_step (fail); refine wpQuiet_nil ?_)
      refine mixb_call_as (o := ⟨_, _, _, _, _, _⟩) (by rfl) (by rfl) (by rfl) (fun K hK => ?_)
      go_wp2_with fail
      refine (Reason_any v _).mono ?_
      rintro e w9 ⟨rfl, rfl⟩
      refine hK _ _ hd8 ?_
      clear hK
      refine mixb_call_as (o := ⟨_, _, _, _, _, _⟩) (by rfl) (by rfl) (by rfl) (fun K hK => ?_)
      go_wp2_with fail
      refine (RReason_any v _).mono ?_
      rintro e w9 ⟨rfl, hbl9⟩
      have hb89 := hd8.trans hbl9
      refine hK _ _ hb89 ?_
      clear hK
      iterate 7 (refine mix_read (o := ⟨_, _, _, _, _, _⟩) (by rfl) (by rfl) ?_; go_big_quiet_step (fail); refine wpQuiet_nil ?_)
      refine mixb_call_as (o := ⟨_, _, _, _, _, _⟩) (by rfl) (by rfl) (by rfl) (fun K hK => ?_)
      go_wp2_with fail
      refine (Kept_true A5 n A c l _ (hk8.below hb89).rd (hh8.below hb89) (by omega)).mono ?_
      rintro e w10 ⟨rfl, rfl⟩
      refine hK _ _ hb89 ?_
      clear hK
      iterate 2 (refine mix_read (o := ⟨_, _, _, _, _, _⟩) (by rfl) (by rfl) ?_; go_big_quiet_step (fail); refine wpQuiet_nil ?_)
      refine mix_done ?_
      have hb9 := hb8.trans (hb89.mono hb8.size)
      have ho9 := ho78.below hb89
      have HSP := Lib.hid (Spoil_any _ A7 n7 c7 _ _ ho9)
      have hlo := hb.size
      clear s7 s8 y0 y1 x1 hd8
      go_wp2_with fail
      refine HSP.out.mono ?_
      rintro e w10 ⟨rfl, hg10, hz10⟩
      have hb10 := hb9.grown hg10 hb9.size (fun g hg => by have := (ho9.lt g hg).1; omega)
      clear hz10 hg10
      go_wp2_with fail
      go_roundw
      case rel => exact ⟨j + 1, by omega, by go_num, hb10⟩
      case measure => simp [intOf]; omega
    · obtain rfl : j = 2 := by omega
      have hBr := hB6.trans (hb.mono hB6.size)
      clear hj2
      go_wp2_with fail
      go_ret
      exact ⟨rfl, hBr⟩

end Go.Proofs.YtogkmlodcdgegaaDoor
