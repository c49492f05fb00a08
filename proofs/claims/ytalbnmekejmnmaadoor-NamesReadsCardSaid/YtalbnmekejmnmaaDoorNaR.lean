/-
  NamesReads.
-/
import Derived.Test.YtalbnmekejmnmaaDoorNaQ
import Derived.Test.YtalbnmekejmnmaaDoorNaJ
import Derived.Test.YtalbnmekejmnmaaDoorNaC
namespace Go.Proofs.YtalbnmekejmnmaaDoor
open Go.RowKit

set_option maxRecDepth 20000 in
set_option maxHeartbeats 4000000 in
theorem namesReads_walk {w : World} (ht : Tab w) (s : ByteArray) (_ : s.size ≤ maxLen) : Calls Tryd.prog 6 #[.string s] w fun e w' => e = .returned (.bool true) ∧ Below w.heap.size w w' := by
  have HB := Lib.hid (begun_any w ht)
  by_cases hs : (4096 : Int) < s.size
  · go_enter Tryd.func6, Tryd.ntmps6
    go_wp2_with fail
    refine HB.out.mono ?_
    rintro e w1 ⟨rfl, hb1⟩
    go_wp2_with fail
    go_ret
    exact ⟨rfl, hb1⟩
  · have hs' : (s.size : Int) ≤ 4096 := by omega
    clear hs
    have hlen := idR_len s
    go_enter Tryd.func6, Tryd.ntmps6
    go_wp2_with fail
    refine HB.out.mono ?_
    rintro e w1 ⟨rfl, hb1⟩
    go_wp2_with fail
    go_loopw [3] (fun i wr => ∃ j : Nat, j ≤ 2 ∧ i = .int .i64 j ∧ Below w.heap.size w wr) (fun i _ => 2 - (intOf i).toNat)
    case atStart => exact ⟨0, by omega, rfl, hb1⟩
    case round =>
      obtain ⟨j, hj, rfl, hbr⟩ := hrel
      by_cases hjn : j < 2
      · obtain ⟨U, hU⟩ : ∃ U, uxR s = U := ⟨_, rfl⟩
        obtain ⟨I, hI⟩ : ∃ I, idR s = I := ⟨_, rfl⟩
        obtain ⟨N, hN⟩ : ∃ N, numR s = N := ⟨_, rfl⟩
        have c1 := Unhex_any s (by omega)
        have c2 := RUnhex_any s (by omega)
        have c3 := ID_any s (by omega)
        have c4 := RID_any s (by omega)
        have c5 := Number_any s (by omega)
        have c6 := RNumber_any s (by omega)
        rw [hU] at c1 c2
        rw [hI] at c3 c4 hlen
        rw [hN] at c5 c6
        obtain ⟨U1, U2⟩ := U
        obtain ⟨I1, I2⟩ := I
        obtain ⟨N1, N2⟩ := N
        dsimp only at c1 c2 c3 c4 c5 c6 hlen
        have C1 := Lib.hid c1
        have C2 := Lib.hid c2
        have C3 := Lib.hid c3
        have C4 := Lib.hid c4
        have C5 := Lib.hid c5
        have C6 := Lib.hid c6
        have HL := Lib.hid hlen
        clear c1 c2 c3 c4 c5 c6 hlen hU hI hN
        go_wp2_with fail
        refine (C1.out _).mono ?_
        rintro e w2 ⟨Ax, nx, cx, rfl, hox, hbl2⟩
        go_wp2_with fail
        refine (C2.out _).mono ?_
        rintro e w3 ⟨Ay, ny, cy, rfl, hoy, hbl3⟩
        have hox3 := hox.below hbl3
        have hb3 := hbl2.trans (hbl3.mono hbl2.size)
        have hz3 : w2.heap.size ≤ w3.heap.size := hbl3.size
        clear hox hbl2 hbl3
        go_wp2_with fail
        refine (C3.out _).mono ?_
        rintro e w4 ⟨rfl, hbl4⟩
        go_wp2_with (first
          | (refine wpList_alloc_zero rfl _ rfl (idA zid) zero_id ?_; intro w5 hg5 hb5 hz5)
          | (refine wpList_store_all rfl _ _ _ rfl w4.heap.size rfl _ _ _ (by rfl) hg5 (size_id HL.out) (idA_same zid_len HL.out) idA_one ?_; intro w6 hg6 hgr6 hz6))
        have hb46 : Below w4.heap.size w4 w6 := hb5.grown hgr6 hb5.size (fun g hg => by injection hg with hg; omega)
        have hb36 : Below w3.heap.size w3 w6 := hbl4.trans (hb46.mono hbl4.size)
        clear hg5 hb5 hz5 hgr6 hz6
        refine (C4.out _).mono ?_
        rintro e w7 ⟨rfl, hbl7⟩
        have hlt6 : w4.heap.size < w6.heap.size := (Array.getElem?_eq_some_iff.1 hg6).1
        have hg7 := (hbl7.block _ hlt6).trans hg6
        have hb37 : Below w3.heap.size w3 w7 := hb36.trans (hbl7.mono hb36.size)
        have hlt7 : w4.heap.size < w7.heap.size := Nat.lt_of_lt_of_le hlt6 hbl7.size
        clear hg6 hb46 hbl4 hbl7 hlt6 hb36
        go_wp2_with (first
          | (refine wpList_alloc_zero rfl _ rfl (idA zid) zero_id ?_; intro w8 hg8 hb8 hz8)
          | (refine wpList_store_all rfl _ _ _ rfl w7.heap.size rfl _ _ _ (by rfl) hg8 (size_id HL.out) (idA_same zid_len HL.out) idA_one ?_; intro w9 hg9 hgr9 hz9))
        have hb79 : Below w7.heap.size w7 w9 := hb8.grown hgr9 hb8.size (fun g hg => by injection hg with hg; omega)
        have hg79 := (hb79.block _ hlt7).trans hg7
        have hb39 := hb37.trans (hb79.mono hb37.size)
        clear hg7 hb8 hz8 hgr9 hz9 hg8 hb37 hb79
        refine (C5.out _).mono ?_
        rintro e wa ⟨rfl, rfl⟩
        go_wp2_with fail
        refine (C6.out _).mono ?_
        rintro e wa ⟨rfl, rfl⟩
        have hox9 := hox3.below hb39
        have hoy9 := hoy.below hb39
        have hsx := str_rd hox9.rd
        have hsy := str_rd hoy9.rd
        have hb9 := hbr.trans ((hb3.trans (hb39.mono hb3.size)).mono hbr.size)
        clear hoy9
        go_wp2_with (first
          | (refine wpList_load_all (by rfl) _ _ rfl w4.heap.size rfl _ _ _ _ hg79 Tryd.underlying37 rfl (size_id HL.out) ?_)
          | (refine wpList_load_all (by rfl) _ _ rfl w7.heap.size rfl _ _ _ _ hg9 Tryd.underlying37 rfl (size_id HL.out) ?_)
          | (refine wpList_neq_id (by rfl) _ _ rfl HL.out HL.out (by rfl) (by rfl) ?_))
        have e3 : w.heap.size ≤ wr.heap.size := hbr.size
        clear hsx hsy hox3 hoy hg79 hg9 hb39 hb3 hz3
        refine (Spoil_any wr.heap.size Ax nx cx _ _ hox9).mono ?_
        rintro e wb ⟨rfl, hgb, hzb⟩
        have hbC : Below w.heap.size w wb := hb9.grown hgb hb9.size (fun g hg => Nat.le_trans e3 (hox9.lt g hg).1)
        clear hzb hgb hox9 e3 hb9
        go_wp2_with fail
        go_roundw
        case rel => exact ⟨j + 1, by omega, by go_num, hbC⟩
        case measure => simp [intOf]; omega
      · have e : j = 2 := by omega
        subst e
        go_wp2_with fail
        go_ret
        exact ⟨rfl, hbr⟩

end Go.Proofs.YtalbnmekejmnmaaDoor
