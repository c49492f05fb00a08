/-
  The laws of layer 1: OctetWrites.
-/
import Derived.Test.YtmomebanpobbgaaLawC
import Derived.Test.YtmomebanpobbgaaMix
namespace Go.Proofs.Ytmomebanpobbgaa
open Go.RowKit

/-- The front of a twin. -/
theorem twin_front {w : World} {A : Option Addr} {n : Nat} {l : List UInt8} (h : Rd w 1 A (n + 3) (n + 3) ((l ++ e5).map b8)) (hl : l.length = n) : Rd w 1 A n (n + 3) (l.map b8) :=
  ⟨by simpa using hl, by omega, h.max, h.nil, fun j u hu => h.cell j u (by
    rw [List.map_append, List.getElem?_append_left (List.getElem?_eq_some_iff.1 hu).1]
    exact hu)⟩

set_option maxHeartbeats 4000000 in
theorem octetWrites_walk {w : World} (A : Option Addr) (n c : Nat) (l : List UInt8) (h : Rd w 1 A n c (l.map b8)) (A2 : Option Addr) (n2 c2 : Nat) (s : List UInt8) (h2 : Rd w 1 A2 n2 c2 (s.map b8)) (v : Int) (hv0 : 0 ≤ v) (hv1 : v ≤ 18446744073709551615) (k : Int) (hk0 : -9223372036854775808 ≤ k) (hk1 : k ≤ 9223372036854775807) :
    Calls Try.prog 6 #[.slice A n c, .slice A2 n2 c2, .int .u64 v, .int .i64 k] w fun e w' => e = .returned (.bool true) ∧ Below w.heap.size w w' := by
  have hln := h.lenb
  have hln2 := h2.lenb
  by_cases hb1 : (131072 : Int) < n
  · go_enter Try.func6, Try.ntmps6
    go_wp2_with (go_at_call 12; refine (begun_any _).mono ?_; rintro e w1 ⟨rfl, hbl1⟩)
    go_ret
    exact ⟨rfl, hbl1⟩
  by_cases hb2 : (131072 : Int) < n2
  · go_enter Try.func6, Try.ntmps6
    go_wp2_with (go_at_call 12; refine (begun_any _).mono ?_; rintro e w1 ⟨rfl, hbl1⟩)
    go_ret
    exact ⟨rfl, hbl1⟩
  go_enter Try.func6, Try.ntmps6
  go_wp2_with fail
  refine (begun_any _).mono ?_
  rintro e w1 ⟨rfl, hbl1⟩
  go_wp2_with fail
  refine (Twin_any A n c l _ (h.below hbl1) (by omega)).mono ?_
  rintro e w2 ⟨At, rfl, hot, hbl2⟩
  go_wp2_with fail
  refine (Twin_any A2 n2 c2 s _ ((h2.below hbl1).below hbl2) (by omega)).mono ?_
  rintro e w3 ⟨Au, rfl, hou, hbl3⟩
  have hbw : Below w.heap.size w w3 := (hbl1.trans (hbl2.mono hbl1.size)).trans (hbl3.mono (Nat.le_trans hbl1.size hbl2.size))
  have ht3 := (hot.below hbl3).rd
  have hu3 := hou.rd
  have hb3 := h.below hbw
  have hs3 := h2.below hbw
  clear hot hou hbl1 hbl2 hbl3
  go_wp2_with fail
  go_loopw [11] (fun i wr => ∃ j : Nat, j ≤ 2 ∧ i = .int .i64 j ∧ Below w3.heap.size w3 wr) (fun i _ => 2 - (intOf i).toNat)
  case atStart => exact ⟨0, by omega, rfl, Below.refl _ _⟩
  case round =>
    obtain ⟨j, hj, rfl, hbr⟩ := hrel
    by_cases hjn : j < 2
    · have htr := ht3.below hbr
      have hur := hu3.below hbr
      have hbr1 := hb3.below hbr
      have hsr := hs3.below hbr
      go_wp2_with fail
      refine (Put_any At n _ l v k _ (twin_front htr hln) (by omega) hv0 hv1).mono ?_
      rintro e w4 ⟨Ax, nx, cx, rfl, hox, hbl4⟩
      go_wp2_with fail
      refine (RPut_any A n c l v k _ (hbr1.below hbl4) (by omega) hv0 hv1).mono ?_
      rintro e w5 ⟨Ay, ny, cy, rfl, hoy, hbl5⟩
      have hb05 := hbl4.trans (hbl5.mono hbl4.size)
      go_wp2_with fail
      refine (Count_any At n _ l v _ ((twin_front htr hln).below hb05) (by omega) hv0 hv1).mono ?_
      rintro e w6 ⟨Ac, nc, cc, rfl, hoc, hbl6⟩
      have hb06 := hb05.trans (hbl6.mono hb05.size)
      go_wp2_with fail
      refine (Text_any At n _ l Au n2 _ s _ ((twin_front htr hln).below hb06) ((twin_front hur hln2).below hb06) (by omega) (by omega)).mono ?_
      rintro e w7 ⟨Az, nz, cz, rfl, hoz, hbl7⟩
      have hb07 := hb06.trans (hbl7.mono hb06.size)
      go_wp2_with fail
      refine (RText_any A n c l A2 n2 c2 s _ (hbr1.below hb07) (hsr.below hb07) (by omega) (by omega)).mono ?_
      rintro e w8 ⟨Aw, nw, cw, rfl, how, hbl8⟩
      have hb08 := hb07.trans (hbl8.mono hb07.size)
      go_wp2_with fail
      have hx8 := (hox.below (hbl5.trans (hbl6.mono hbl5.size))).below ((hbl7.mono (Nat.le_refl _)).trans (hbl8.mono hbl7.size))
      have hy8 := (hoy.below (hbl6.trans (hbl7.mono hbl6.size))).below hbl8
      have hc8 := (hoc.below hbl7).below hbl8
      have hz8 := hoz.below hbl8
      have hsx := fun b : Later w8 => str_rd (hx8.below b.below).rd
      have hsy := fun b : Later w8 => str_rd (hy8.below b.below).rd
      have hsc := fun b : Later w8 => str_rd (hc8.below b.below).rd
      have hsz := fun b : Later w8 => str_rd (hz8.below b.below).rd
      have hsw := fun b : Later w8 => str_rd (how.below b.below).rd
      refine wp_region_mixb (List.range 43) (by kernel_rfl) (by kernel_rfl) (by rfl) (by kernel_rfl) (fun _ _ _ _ _ h => h) ?_
      iterate 27 (refine mix_read (o := ⟨_, _, _, _, _, _⟩) (by rfl) (by rfl) ?_; go_big_quiet_step (fail); refine wpQuiet_nil ?_)
      refine mixb_call (o := ⟨_, _, _, _, _, _⟩) (by rfl) (by rfl) (by rfl) (fun K hK => ?_)
      go_wp2_with fail
      refine (RCount_any A n c l v _ (hbr1.below hb08).drew (by omega) hv0 hv1).mono ?_
      rintro e w9 ⟨Ad, nd, cd, rfl, hod, hbl9⟩
      have hbl9' := (Below.refl _ _).drew.trans hbl9
      have hsd := fun b : Later w9 => str_rd (hod.below b.below).rd
      refine hK _ w9 hbl9' ?_
      iterate 6 (refine mix_read (o := ⟨_, _, _, _, _, _⟩) (by rfl) (by rfl) ?_; go_big_quiet_step (fail); refine wpQuiet_nil ?_)
      refine mixb_call_as (o := ⟨_, _, _, _, _, _⟩) (by rfl) (by rfl) (by rfl) (fun K hK => ?_)
      go_wp2_with fail
      refine (Kept_true At n A c l _ ((htr.below hb08).below hbl9') ((hbr1.below hb08).below hbl9') (by omega)).mono ?_
      rintro e w10 ⟨rfl, rfl⟩
      refine hK _ _ (Below.refl _ _) ?_
      iterate 5 (refine mix_read (o := ⟨_, _, _, _, _, _⟩) (by rfl) (by rfl) ?_; go_big_quiet_step (fail); refine wpQuiet_nil ?_)
      refine mixb_call_as (o := ⟨_, _, _, _, _, _⟩) (by rfl) (by rfl) (by rfl) (fun K hK => ?_)
      go_wp2_with fail
      refine (Kept_true Au n2 A2 c2 s _ ((hur.below hb08).below hbl9') ((hsr.below hb08).below hbl9') (by omega)).mono ?_
      rintro e w10 ⟨rfl, rfl⟩
      refine hK _ _ (Below.refl _ _) ?_
      iterate 2 (refine mix_read (o := ⟨_, _, _, _, _, _⟩) (by rfl) (by rfl) ?_; go_big_quiet_step (fail); refine wpQuiet_nil ?_)
      refine mix_done ?_
      have hb09 := hb08.trans (hbl9'.mono hb08.size)
      have hx9 := hx8.below hbl9'
      have hc9 := hc8.below hbl9'
      have hz9 := hz8.below hbl9'
      have hpc := hox.apart hoc hbl5.size
      have hpz := hox.apart hoz (Nat.le_trans hbl5.size hbl6.size)
      have hpd := hoc.apart hoz (Nat.le_refl _)
      have hb39 := hbr.trans (hb09.mono hbr.size)
      have e4 : wr.heap.size ≤ w5.heap.size := hb05.size
      have e5' : wr.heap.size ≤ w6.heap.size := hb06.size
      have e3 : w3.heap.size ≤ wr.heap.size := hbr.size
      clear hK
      clear hsx hsy hsc hsz hsw hsd hx8 hy8 hc8 hz8 how hoy hox hoc hoz htr hur hbr1 hsr hbl4 hbl5 hbl6 hbl7 hbl8 hbl9 hbl9' hb05 hb06 hb07 hb08
      go_wp2_with fail
      refine (Spoil_any wr.heap.size Ax nx cx _ _ hx9).mono ?_
      rintro e wa ⟨rfl, hga, hza⟩
      have hbA := below_own hb39 hga (fun g hg => Nat.le_trans e3 (hx9.lt g hg).1) hb39.size
      have hca := hc9.grown hga hpc
      have hza' := hz9.grown hga hpz
      go_wp2_with fail
      refine (Spoil_any w5.heap.size Ac nc cc _ _ hca).mono ?_
      rintro e wb ⟨rfl, hgb, hzb⟩
      have hbB := below_own hbA hgb (fun g hg => Nat.le_trans (Nat.le_trans e3 e4) (hca.lt g hg).1) hbA.size
      have hzb' := hza'.grown hgb hpd
      go_wp2_with fail
      refine (Spoil_any w6.heap.size Az nz cz _ _ hzb').mono ?_
      rintro e wc ⟨rfl, hgc, hzc⟩
      have hbC := below_own hbB hgc (fun g hg => Nat.le_trans (Nat.le_trans e3 e5') (hzb'.lt g hg).1) hbB.size
      clear hpc hpz hpd hza hzb hzc hga hgb hgc hx9 hc9 hz9 hca hza' hzb' hbA hbB e3 e4 e5'
      set_option maxRecDepth 20000 in go_wp2_with fail
      go_roundw
      case rel => exact ⟨j + 1, by omega, by go_num, hbC⟩
      case measure => simp [intOf]; omega
    · have e : j = 2 := by omega
      subst e
      go_wp2_with fail
      go_ret
      exact ⟨rfl, hbw.trans (hbr.mono hbw.size)⟩

end Go.Proofs.Ytmomebanpobbgaa
