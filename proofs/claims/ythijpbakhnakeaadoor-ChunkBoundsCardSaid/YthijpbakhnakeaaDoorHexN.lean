/-
  The law ChunkBounds.
-/
import Derived.Test.YthijpbakhnakeaaDoorHexD
import Derived.Test.YthijpbakhnakeaaDoorHexW
import Derived.Test.YthijpbakhnakeaaDoorPlace
import Derived.Test.YthijpbakhnakeaaDoorMixD
namespace Go.Proofs.YthijpbakhnakeaaDoor
open Go.RowKit

theorem madeB_list (n : Nat) : (madeCells (Value.int .u8 0).cells (n * 1)).toList = (List.replicate n (0 : UInt8)).map b8 := by
  rw [Nat.mul_one, madeCells_one _ _ rfl, List.map_replicate]
  rfl

set_option maxRecDepth 20000 in
set_option maxHeartbeats 8000000 in
theorem chunkBounds_walk {w : World} (ht : HTab w) (v : Int) (hv0 : -9223372036854775808 ≤ v) (hv1 : v ≤ 9223372036854775807) (sz : Int) (hs0 : -9223372036854775808 ≤ sz) (hs1 : sz ≤ 9223372036854775807) :
    Calls Tryd.prog 5 #[.int .i64 v, .int .i64 sz] w fun e w' => e = .returned (.bool true) ∧ Below w.heap.size w w' := by
  have HB := Lib.hid (begun_any w)
  have HT := Lib.hid (fun W (hb : Below w.heap.size w W) => ht.below hb)
  have HP1 := Lib.hid (fun W => Place_any v 33 W hv0 hv1 (by omega))
  have HP2 := Lib.hid (fun W => Place_any sz 5000 W hs0 hs1 (by omega))
  have hp1 := placeP_lt v 33 (by omega)
  have hp2 := placeP_lt sz 5000 (by omega)
  obtain ⟨p, hp⟩ : ∃ p, placeP v 33 = p := ⟨_, rfl⟩
  obtain ⟨q, hq⟩ : ∃ q, placeP sz 5000 = q := ⟨_, rfl⟩
  rw [hp] at hp1 HP1
  rw [hq] at hp2 HP2
  clear ht hv0 hv1 hs0 hs1 hp hq
  obtain ⟨m, hm⟩ : ∃ m, 4080 + p = m := ⟨_, rfl⟩
  have hm1 : (4080 : Int) + (p : Int) = (m : Int) := by omega
  have hm2 : m ≤ 4112 := by omega
  have hK1 : 1 ≤ (max (1 + (q : Int)) 1).toNat := by omega
  obtain ⟨K, hK⟩ : ∃ K, (max (1 + (q : Int)) 1).toNat = K := ⟨_, rfl⟩
  have hrl : (List.replicate m (0 : UInt8)).length = m := List.length_replicate
  have hxl := chunksL_len K (by omega) m (List.replicate m 0) (by rw [hrl]; omega)
  rw [hrl] at hxl
  have HCH := Lib.hid (fun (w' : World) (A : Option Addr) (c : Nat) (h : Rd w' 1 A m c ((List.replicate m (0 : UInt8)).map b8)) (hb : Below w.heap.size w w') => Chunks_any (w := w') A m c _ h (by omega) (1 + (q : Int)) (HT.out _ hb))
  rw [hK] at HCH hK1
  have HM := Lib.hid hm
  have hp1i : (p : Int) ≤ 32 := by omega
  have HM1 := Lib.hid hm1
  have HXL := Lib.hid hxl
  have hq2 : (q : Int) < 5000 := by omega
  clear hK hxl
  by_cases hbig : 4096 < m
  · have hf := feed_over K hK1 m (List.replicate m 0) [] (by rw [hrl]; exact Nat.le_refl _) (by simp) (by rw [hrl]; simp; omega) (by rw [hrl]; omega)
    have hbd : (feedP st0 (chunksL K m (List.replicate m 0))).2.bd = 2 := hf
    have hnx := feedP_err (chunksL K m (List.replicate m 0)) st0 (fun h => absurd rfl h) (by rw [hbd]; decide)
    have hgt : decide ((4096 : Int) < m) = true := decide_eq_true (by omega)
    obtain ⟨F, hF⟩ : ∃ F, feedP st0 (chunksL K m (List.replicate m 0)) = F := ⟨_, rfl⟩
    obtain ⟨N, hN⟩ : ∃ N, feedN st0 (chunksL K m (List.replicate m 0)) = N := ⟨_, rfl⟩
    rw [hF] at hbd hnx
    have hfin : finP F.2 = { F.2 with got := [] } := if_neg (by rw [hbd]; decide)
    have hD : ((finP F.2).nx == 9) = false := by rw [hfin]; simpa using hnx
    have hG : (finP F.2).got.length = 0 := by rw [hfin]; rfl
    have HBD := Lib.hid hbd
    obtain ⟨SF, hSF⟩ : ∃ SF, finP F.2 = SF := ⟨_, rfl⟩
    rw [hSF] at hD hG
    have HD := Lib.hid hD
    have HG := Lib.hid hG
    have HF := Lib.hid hF
    have HN := Lib.hid hN
    have HSF := Lib.hid hSF
    clear hf hbd hnx hfin hD hG hF hN hSF hp1 hp2 hm hm1 hrl hK1
    go_enter Tryd.func5, Tryd.ntmps5
    go_wp2_with fail
    refine HB.out.mono ?_
    rintro e w1 ⟨rfl, hb1⟩
    go_wp2_with fail
    refine (HP1.out _).mono ?_
    rintro e w2 ⟨rfl, rfl⟩
    go_upto_region 4 with fail
    rw [HM1.out]
    go_wp2_with fail
    refine (Chunked_any _).mono ?_
    rintro e w3 ⟨rfl, hbody3, hbl3⟩
    have hb3 := hb1.trans (hbl3.mono hb1.size)
    have hz3 := hbody3.lt
    go_wp2_with fail
    refine wp_region_plan (MPlan.reads [0, 1, 3, 4, 5] (.one 2 (.one 6 (.one 7 (MPlan.reads [8, 9, 10, 11, 12] .fin))))) (fun _ => True) (by kernel_rfl) (by kernel_rfl) (by kernel_rfl) (fun _ _ _ _ _ h => h) trivial ?_
    iterate 3 (refine plan_read (o := ⟨_, _, _, _, _, _⟩) (by rfl) (by rfl) ?_; go_big_quiet_step (fail); refine wpQuiet_nil ?_)
    refine plan_quiet (o := ⟨_, _, _, _, _, _⟩) (by rfl) (by rfl) (.int .i64 (q : Int)) (fun W => by go_simp) (fun w' _ => HP2.out w') ?_
    simp only [Act.put, List.setIfInBounds_toArray, List.set_cons_succ, List.set_cons_zero]
    have hw1 : IntKind.i64.wrap (1 + (q : Int)) = 1 + (q : Int) := IntWalk.i64_in _ (by omega)
    refine plan_read (o := ⟨_, _, _, _, _, _⟩) (by rfl) (by rfl) ?_
    go_big_quiet_step (fail)
    refine wpQuiet_nil ?_
    clear hw1
    refine plan_one (o := ⟨_, _, _, _, _, _⟩) (by rfl) (fun KK hKK => ?_)
    go_wp2_with (at_make; refine wpList_mk (base := w.heap.size) rfl _ _ rfl eb rfl rfl m m rfl rfl (Nat.le_refl _) (by omega) (by unfold maxLen; omega) (by exact hb3.size) ?_; intro w4 ho4 hg4 hz4)
    refine hKK _ _ trivial ?_
    clear hKK
    rw [madeB_list] at ho4
    have hb4 : Below w.heap.size w w4 := (hb3.drew).grown hg4 hb3.size (fun g hg => by cases hg)
    have hbl34 : Below w3.heap.size w3 w4 := ((Below.refl w3.heap.size w3).drew).grown hg4 (Nat.le_refl _) (fun g hg => by cases hg)
    refine plan_one (o := ⟨_, _, _, _, _, _⟩) (by rfl) (fun KK hKK => ?_)
    go_wp2_with fail
    refine (HCH.out w4 _ _ ho4.rd hb4).mono ?_
    rintro e w5 ⟨A5, n5, c5, rfl, ho5, hbl5⟩
    have hn5 := ho5.lenb
    have hxl := HXL.out
    rw [hn5] at hxl
    have hbl35 := hbl34.trans (hbl5.mono hbl34.size)
    have hb5 := hb4.trans (hbl5.mono hb4.size)
    go_wp2_with fail
    refine hKK _ _ trivial ?_
    clear hKK
    refine plan_one (o := ⟨_, _, _, _, _, _⟩) (by rfl) (fun KK hKK => ?_)
    have hs34 := hbl34.size
    have HFD := Lib.hid (Feed_any (hbody3.below hbl35) ok0 A5 n5 c5 _ ho5.rd (by omega) (fun k hk hM => by
      have h1 := (ho5.lt k hk).1
      rcases hM with h2 | h2
      · omega
      · simp [blk] at h2))
    rw [HF.out, HN.out, HSF.out, HBD.out] at HFD
    go_wp2_with fail
    refine HFD.out.mono ?_
    rintro e w6 ⟨A6, n6, c6, rfl, hbody6, hw6, hl6⟩
    go_wp2_with fail
    refine hKK _ _ trivial ?_
    clear hKK
    iterate 5 (refine plan_read (o := ⟨_, _, _, _, _, _⟩) (by rfl) (by rfl) ?_; go_big_quiet_step (fail); refine wpQuiet_nil ?_)
    refine plan_fin ?_
    have hz5 := hbl5.size
    have hB6 : Below w.heap.size w w6 := hb5.trans (hw6.below (fun i hi => by
      rcases hi with h1 | h1
      · have := hb1.size
        omega
      · simp [blk] at h1) (by have := hb5.size; omega))
    clear hn5 hxl hbl34 hbl35 hs34 hz5 hz3 ho5 hbl5 ho4 hg4 hz4 hb5 hw6 hl6 hbody3 hbl3
    go_wp2_with fail
    refine (Done_any hbody6).mono ?_
    rintro e w7 ⟨rfl, rfl⟩
    rw [HD.out]
    go_wp2_with fail
    refine (Data_any hbody6 (by rw [HG.out]; omega)).mono ?_
    rintro e w8 ⟨A8, n8, c8, rfl, ho8, hbl8⟩
    obtain rfl : 0 = n8 := HG.out.symm.trans ho8.lenb
    go_wp2_with fail
    go_ret
    exact ⟨rfl, hB6.trans (hbl8.mono hB6.size)⟩
  · have hf := feed_chunks K hK1 [] m (List.replicate m 0) [] (by rw [hrl]; exact Nat.le_refl _) (by rw [hrl]; simp; omega)
    rw [List.append_nil, List.nil_append] at hf
    have hf2 : feedP st0 (chunksL K m (List.replicate m 0)) = _ := hf
    have hgt : decide ((4096 : Int) < m) = false := decide_eq_false (by omega)
    obtain ⟨F, hF⟩ : ∃ F, feedP st0 (chunksL K m (List.replicate m 0)) = F := ⟨_, rfl⟩
    obtain ⟨N, hN⟩ : ∃ N, feedN st0 (chunksL K m (List.replicate m 0)) = N := ⟨_, rfl⟩
    rw [hF] at hf2
    have hbd : F.2.bd = 0 := by rw [hf2]
    have hfin : finP F.2 = F.2 := if_pos hbd
    have hD : ((finP F.2).nx == 9) = true := by rw [hfin, hf2]; rfl
    have hG : (finP F.2).got.length = m := by rw [hfin, hf2]; exact hrl
    have HBD := Lib.hid hbd
    obtain ⟨SF, hSF⟩ : ∃ SF, finP F.2 = SF := ⟨_, rfl⟩
    rw [hSF] at hD hG
    have HD := Lib.hid hD
    have HG := Lib.hid hG
    have HF := Lib.hid hF
    have HN := Lib.hid hN
    have HSF := Lib.hid hSF
    clear hf hf2 hbd hfin hD hG hF hN hSF hp1 hp2 hm hm1 hrl hK1
    go_enter Tryd.func5, Tryd.ntmps5
    go_wp2_with fail
    refine HB.out.mono ?_
    rintro e w1 ⟨rfl, hb1⟩
    go_wp2_with fail
    refine (HP1.out _).mono ?_
    rintro e w2 ⟨rfl, rfl⟩
    go_upto_region 4 with fail
    rw [HM1.out]
    go_wp2_with fail
    refine (Chunked_any _).mono ?_
    rintro e w3 ⟨rfl, hbody3, hbl3⟩
    have hb3 := hb1.trans (hbl3.mono hb1.size)
    have hz3 := hbody3.lt
    go_wp2_with fail
    refine wp_region_plan (MPlan.reads [0, 1, 3, 4, 5] (.one 2 (.one 6 (.one 7 (MPlan.reads [8, 9, 10, 11, 12] .fin))))) (fun _ => True) (by kernel_rfl) (by kernel_rfl) (by kernel_rfl) (fun _ _ _ _ _ h => h) trivial ?_
    iterate 3 (refine plan_read (o := ⟨_, _, _, _, _, _⟩) (by rfl) (by rfl) ?_; go_big_quiet_step (fail); refine wpQuiet_nil ?_)
    refine plan_quiet (o := ⟨_, _, _, _, _, _⟩) (by rfl) (by rfl) (.int .i64 (q : Int)) (fun W => by go_simp) (fun w' _ => HP2.out w') ?_
    simp only [Act.put, List.setIfInBounds_toArray, List.set_cons_succ, List.set_cons_zero]
    have hw1 : IntKind.i64.wrap (1 + (q : Int)) = 1 + (q : Int) := IntWalk.i64_in _ (by omega)
    refine plan_read (o := ⟨_, _, _, _, _, _⟩) (by rfl) (by rfl) ?_
    go_big_quiet_step (fail)
    refine wpQuiet_nil ?_
    clear hw1
    refine plan_one (o := ⟨_, _, _, _, _, _⟩) (by rfl) (fun KK hKK => ?_)
    go_wp2_with (at_make; refine wpList_mk (base := w.heap.size) rfl _ _ rfl eb rfl rfl m m rfl rfl (Nat.le_refl _) (by omega) (by unfold maxLen; omega) (by exact hb3.size) ?_; intro w4 ho4 hg4 hz4)
    refine hKK _ _ trivial ?_
    clear hKK
    rw [madeB_list] at ho4
    have hb4 : Below w.heap.size w w4 := (hb3.drew).grown hg4 hb3.size (fun g hg => by cases hg)
    have hbl34 : Below w3.heap.size w3 w4 := ((Below.refl w3.heap.size w3).drew).grown hg4 (Nat.le_refl _) (fun g hg => by cases hg)
    refine plan_one (o := ⟨_, _, _, _, _, _⟩) (by rfl) (fun KK hKK => ?_)
    go_wp2_with fail
    refine (HCH.out w4 _ _ ho4.rd hb4).mono ?_
    rintro e w5 ⟨A5, n5, c5, rfl, ho5, hbl5⟩
    have hn5 := ho5.lenb
    have hxl := HXL.out
    rw [hn5] at hxl
    have hbl35 := hbl34.trans (hbl5.mono hbl34.size)
    have hb5 := hb4.trans (hbl5.mono hb4.size)
    go_wp2_with fail
    refine hKK _ _ trivial ?_
    clear hKK
    refine plan_one (o := ⟨_, _, _, _, _, _⟩) (by rfl) (fun KK hKK => ?_)
    have hs34 := hbl34.size
    have HFD := Lib.hid (Feed_any (hbody3.below hbl35) ok0 A5 n5 c5 _ ho5.rd (by omega) (fun k hk hM => by
      have h1 := (ho5.lt k hk).1
      rcases hM with h2 | h2
      · omega
      · simp [blk] at h2))
    rw [HF.out, HN.out, HSF.out, HBD.out] at HFD
    go_wp2_with fail
    refine HFD.out.mono ?_
    rintro e w6 ⟨A6, n6, c6, rfl, hbody6, hw6, hl6⟩
    go_wp2_with fail
    refine hKK _ _ trivial ?_
    clear hKK
    iterate 5 (refine plan_read (o := ⟨_, _, _, _, _, _⟩) (by rfl) (by rfl) ?_; go_big_quiet_step (fail); refine wpQuiet_nil ?_)
    refine plan_fin ?_
    have hz5 := hbl5.size
    have hB6 : Below w.heap.size w w6 := hb5.trans (hw6.below (fun i hi => by
      rcases hi with h1 | h1
      · have := hb1.size
        omega
      · simp [blk] at h1) (by have := hb5.size; omega))
    clear hn5 hxl hbl34 hbl35 hs34 hz5 hz3 ho5 hbl5 ho4 hg4 hz4 hb5 hw6 hl6 hbody3 hbl3
    go_wp2_with fail
    refine (Done_any hbody6).mono ?_
    rintro e w7 ⟨rfl, rfl⟩
    rw [HD.out]
    go_wp2_with fail
    refine (Data_any hbody6 (by rw [HG.out]; omega)).mono ?_
    rintro e w8 ⟨A8, n8, c8, rfl, ho8, hbl8⟩
    obtain rfl : m = n8 := HG.out.symm.trans ho8.lenb
    go_wp2_with fail
    go_ret
    exact ⟨rfl, hB6.trans (hbl8.mono hB6.size)⟩

end Go.Proofs.YthijpbakhnakeaaDoor
