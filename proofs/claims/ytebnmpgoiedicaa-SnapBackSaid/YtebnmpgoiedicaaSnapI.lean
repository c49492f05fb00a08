/-
  The laws SnapWrites, SnapReads.
-/
import Derived.Test.YtebnmpgoiedicaaSnapH
import Derived.Test.YtebnmpgoiedicaaPlace
namespace Go.Proofs.Ytebnmpgoiedicaa
open Go.RowKit

theorem May_below {w : World} {R : List UInt8} {t : Int} {s : ByteArray} (hR : R.length = 32) (hs : s.size ≤ 9223372036854775807) {b : Bool} (h : mayB t s = b) :
    Calls Try.prog 9 #[.agg (mC R t s)] w fun e w' => e = .returned (.bool b) ∧ Below w.heap.size w w' := by
  rw [← h]
  exact May_any R t s hR w hs

set_option maxRecDepth 20000 in
set_option maxHeartbeats 8000000 in
theorem snapWrites_walk {w : World} (R : List UInt8) (t : Int) (s : ByteArray) (hR : R.length = 32) (ht0 : -9223372036854775808 ≤ t) (ht1 : t ≤ 9223372036854775807) (hs : s.size ≤ maxLen) :
    Calls Try.prog 3 #[.agg (mC R t s)] w fun e w' => e = .returned (.bool true) ∧ Below w.heap.size w w' := by
  unfold maxLen at hs
  by_cases hb : (1024 : Int) < s.size
  · go_enter Try.func3, Try.ntmps3
    go_wp2_with (first
      | (refine wpList_box rfl _ _ rfl (mC R t s) rfl ?_; intro w0 hg0 hb0 hz0; have hm0 : Man w0 w.heap.size R t s := ⟨hR, hg0⟩)
      | (go_at_call 6; refine (begun_any _).mono ?_; rintro e w1 ⟨rfl, hbl1⟩; have hm1 := hm0.below hbl1; have q1 := hm1.label))
    go_ret
    exact ⟨rfl, hb0.trans (hbl1.mono hb0.size)⟩
  have hs2 : s.size ≤ 1024 := by omega
  have hs3 : (s.size : Int) ≤ 1024 := by omega
  clear hb
  obtain ⟨C, E, hCE⟩ : ∃ C E, bytesP R t s = (C, E) := ⟨_, _, rfl⟩
  have HB := Lib.hid (fun W => Bytes_any R t s hR W (by omega) ht0 ht1)
  have HRB := Lib.hid (fun W => RBytes_any R t s hR W (by omega) ht0 ht1)
  rw [hCE] at HB HRB
  obtain ⟨mb, hmb⟩ : ∃ mb, mayB t s = mb := ⟨_, rfl⟩
  have HM := Lib.hid (fun W => May_any R t s hR W (by omega))
  have HRM := Lib.hid (fun W => RMay_any R t s hR W (by omega))
  rw [hmb] at HM HRM
  clear hCE hmb
  go_enter Try.func3, Try.ntmps3
  go_wp2_with (first
    | (refine wpList_box rfl _ _ rfl (mC R t s) rfl ?_; intro w0 hg0 hb0 hz0; have hm0 : Man w0 w.heap.size R t s := ⟨hR, hg0⟩)
    | (go_at_call 6; refine (begun_any _).mono ?_; rintro e w1 ⟨rfl, hbl1⟩; have hm1 := hm0.below hbl1; have q1 := hm1.label))
  have hB1 := hb0.trans (hbl1.mono hb0.size)
  clear hm0 hg0 hb0 hbl1 q1
  go_loopw [3] (fun i wr => ∃ j : Nat, j ≤ 2 ∧ i = .int .i64 j ∧ Man wr w.heap.size R t s ∧ Below w.heap.size w wr) (fun i _ => 2 - (intOf i).toNat)
  case atStart => exact ⟨0, by omega, rfl, hm1, hB1⟩
  case round =>
    obtain ⟨j, hj, rfl, hm, hbr⟩ := hrel
    have hsz := size_man (t := t) (s := s) hR
    have HSZ := Lib.hid hsz
    clear hsz
    by_cases hjn : j < 2
    · go_wp2_with (first
        | (refine wpList_load_all (by rfl) _ _ rfl w.heap.size rfl _ _ _ _ hm.obj Try.underlying25 rfl HSZ.out ?_)
        | (go_at_call 7; refine (HB.out _).mono ?_; rintro e w2 ⟨A2, n2, c2, rfl, ho2, hbl2⟩; have hm2 := hm.below hbl2)
        | (refine wpList_load_all (by rfl) _ _ rfl w.heap.size rfl _ _ _ _ hm2.obj Try.underlying25 rfl HSZ.out ?_)
        | (go_at_call 8; refine (HRB.out _).mono ?_; rintro e w3 ⟨A3, n3, c3, rfl, ho3, hbl3⟩; have hm3 := hm2.below hbl3))
      have hB3 := hbr.trans ((hbl2.trans (hbl3.mono hbl2.size)).mono hbr.size)
      have k1 := fun b : Later w3 => str_rd ((ho2.below hbl3).below b.below).rd
      have k2 := fun b : Later w3 => str_rd (ho3.below b.below).rd
      have k3 : ∀ w', (∃ b : Later w3, w' = b.at') → (loadVar 25 ⟨w.heap.size, 0, none⟩).run Try.prog w' = .ok (.agg (mC R t s)) w' := fun w' ⟨b, e⟩ => by
        subst e
        exact run_loadVar_row _ _ _ _ _ _ _ (hm3.below b.below).obj Try.underlying25 rfl HSZ.out
      have K3 := Lib.hid k3
      clear k3
      refine wp_region_mixb [0, 1, 2, 3, 4, 5, 6, 7, 8, 9, 10, 11, 13, 12, 14, 15, 16] (by kernel_rfl) (by kernel_rfl) (by rfl) (by kernel_rfl) (fun _ _ _ _ _ h => h) ?_
      iterate 11 (refine mix_read (o := ⟨_, _, _, _, _, _⟩) (by rfl) (by rfl) ?_; go_big_quiet_step (fail); refine wpQuiet_nil ?_)
      refine mix_load (o := ⟨_, _, _, _, _, _⟩) (by rfl) rfl (by rfl) _ rfl _ K3.out ?_
      simp only [Act.put, List.setIfInBounds_toArray, List.set_cons_succ, List.set_cons_zero]
      refine mix_load (o := ⟨_, _, _, _, _, _⟩) (by rfl) rfl (by rfl) _ rfl _ K3.out ?_
      simp only [Act.put, List.setIfInBounds_toArray, List.set_cons_succ, List.set_cons_zero]
      have hd := (Below.refl w3.heap.size w3).drew
      refine mixb_call_as (o := ⟨_, _, _, _, _, _⟩) (by rfl) (by rfl) (by rfl) (fun K hK => ?_)
      go_wp2_with fail
      refine (HM.out _).mono ?_
      rintro e w4 ⟨rfl, hbl4⟩
      have hb34 := hd.trans hbl4
      refine hK _ _ hb34 ?_
      clear hK
      refine mixb_call_as (o := ⟨_, _, _, _, _, _⟩) (by rfl) (by rfl) (by rfl) (fun K hK => ?_)
      go_wp2_with fail
      refine (HRM.out _).mono ?_
      rintro e w5 ⟨rfl, hbl5⟩
      have hb35 := hb34.trans (hbl5.mono hb34.size)
      refine hK _ _ hb35 ?_
      clear hK
      iterate 2 (refine mix_read (o := ⟨_, _, _, _, _, _⟩) (by rfl) (by rfl) ?_; go_big_quiet_step (fail); refine wpQuiet_nil ?_)
      refine mix_done ?_
      clear k1 k2 K3
      have ho5 := (ho2.below hbl3).below hb35
      have hB5 := hB3.trans (hb35.mono hB3.size)
      have hm5 := hm3.below hb35
      go_wp2_with fail
      refine (Spoil_any wr.heap.size A2 n2 c2 _ _ ho5).mono ?_
      rintro e w6 ⟨rfl, hg6, hz6⟩
      have hne : blk A2 ≠ some w.heap.size := fun e => by
        have := (ho5.lt _ e).1
        have := hm.lt
        omega
      have hm6 : Man w6 w.heap.size R t s := ⟨hR, (hg6.block w.heap.size hm5.lt (fun e => hne e.symm)).trans hm5.obj⟩
      have hB6 := hB5.grown hg6 hB5.size (fun g hg => by
        have := (ho5.lt g hg).1
        have := hbr.size
        omega)
      clear hz6
      go_wp2_with fail
      go_roundw
      case rel => exact ⟨j + 1, by omega, by go_num, hm6, hB6⟩
      case measure => simp [intOf]; omega
    · obtain rfl : j = 2 := by omega
      go_wp2_with fail
      go_ret
      exact ⟨rfl, hbr⟩

set_option maxRecDepth 20000 in
set_option maxHeartbeats 8000000 in
theorem snapReads_walk {w : World} (A : Option Addr) (n c : Nat) (l : List UInt8) (h : Rd w 1 A n c (l.map b8)) :
    Calls Try.prog 4 #[.slice A n c] w fun e w' => e = .returned (.bool true) ∧ Below w.heap.size w w' := by
  have hln := h.lenb
  by_cases hb : (1024 : Int) < n
  · go_enter Try.func4, Try.ntmps4
    go_wp2_with (go_at_call 6; refine (begun_any _).mono ?_; rintro e w1 ⟨rfl, hbl1⟩)
    go_ret
    exact ⟨rfl, hbl1⟩
  have hn : (n : Int) ≤ 1024 := by omega
  clear hb
  obtain ⟨R, t, s, E, hR, hT⟩ : ∃ R t s E, R.length = 32 ∧ takeM l = (mC R t s, E) := by
    by_cases hok : okT l
    · exact ⟨_, _, _, _, RT_length (by have := hok.1; omega), take_yes hok⟩
    · exact ⟨_, _, _, _, by simp, take_no hok⟩
  have HT := Lib.hid hT
  have HSZ := Lib.hid (size_man (t := t) (s := s) hR)
  have HZ := Lib.hid (mZ_size.trans (mC_size (t := t) (s := s) hR).symm)
  clear hT hln
  go_enter Try.func4, Try.ntmps4
  go_wp2_with fail
  refine (begun_any _).mono ?_
  rintro e w1 ⟨rfl, hbl1⟩
  go_wp2_with fail
  refine (Twin_any A n c l _ (h.below hbl1) (by omega)).mono ?_
  rintro e w2 ⟨At, rfl, hot, hbl2⟩
  have hB2 := hbl1.trans (hbl2.mono hbl1.size)
  go_wp2_with fail
  refine (Take_any At n (n + 3) l _ (by have := hot.rd; exact ⟨by simpa using h.lenb, by omega, this.max, this.nil, fun j u hu => this.cell j u (by rw [List.map_append, List.getElem?_append_left (List.getElem?_eq_some_iff.1 hu).1]; exact hu)⟩) (by omega)).mono ?_
  rintro e w3 ⟨rfl, hbl3⟩
  rw [HT.out]
  have hB3 := hB2.trans (hbl3.mono hB2.size)
  go_wp2_with (first
    | (refine wpList_alloc_zero rfl _ rfl mZ zero_man ?_; intro w4 hg4 hb4 hz4)
    | (refine wpList_store_all rfl _ _ _ rfl w3.heap.size rfl _ _ (mC R t s) rfl hg4 HSZ.out HZ.out mC_one ?_; intro w5 hg5 hgr5 hz5))
  have hB35 : Below w3.heap.size w3 w5 := hb4.grown hgr5 hb4.size (fun g hg => by injection hg with hg; omega)
  have hB5 := hB3.trans (hB35.mono hB3.size)
  refine (RTake_any A n c l _ (h.below hB5) (by omega)).mono ?_
  rintro e w6 ⟨rfl, hbl6⟩
  rw [HT.out]
  have hB6 := hB5.trans (hbl6.mono hB5.size)
  have hg6 := (hbl6.block w3.heap.size (Array.getElem?_eq_some_iff.1 hg5).1).trans hg5
  clear hz4 hz5 hg4 hb4 hgr5
  go_wp2_with (first
    | (refine wpList_alloc_zero rfl _ rfl mZ zero_man ?_; intro w7 hg7 hb7 hz7)
    | (refine wpList_store_all rfl _ _ _ rfl w6.heap.size rfl _ _ (mC R t s) rfl hg7 HSZ.out HZ.out mC_one ?_; intro w8 hg8 hgr8 hz8))
  have hB68 : Below w6.heap.size w6 w8 := hb7.grown hgr8 hb7.size (fun g hg => by injection hg with hg; omega)
  have hB8 := hB6.trans (hB68.mono hB6.size)
  have hlt6 : w3.heap.size < w6.heap.size := (Array.getElem?_eq_some_iff.1 hg6).1
  have hg68 := (hB68.block w3.heap.size hlt6).trans hg6
  have hot8 := (((hot.below hbl3).below hB35).below hbl6).below hB68
  refine (Kept_true At n A c l _ hot8.rd (h.below hB8) (by omega)).mono ?_
  rintro e w9 ⟨rfl, rfl⟩
  go_wp2_with fail
  refine (Spoil_any w1.heap.size At n (n + 3) _ _ (hot8.cut0 (hi := n) (by omega))).mono ?_
  rintro e w10 ⟨rfl, hg10, hz10⟩
  have hsz3 : w2.heap.size ≤ w3.heap.size := hbl3.size
  have hna : ∀ k, w3.heap.size ≤ k → blk At ≠ some k := fun k hk e => by
    have := (hot.lt k e).2
    omega
  have hA := (hg10.block w3.heap.size (by have := hB68.size; omega) (fun e => hna _ (Nat.le_refl _) e.symm)).trans hg68
  have hC := (hg10.block w6.heap.size (Array.getElem?_eq_some_iff.1 hg8).1 (fun e => hna _ (by omega) e.symm)).trans hg8
  have hB10 := hB8.grown hg10 hB8.size (fun g hg => by
    have := (hot.lt g hg).1
    have := hbl1.size
    omega)
  clear hz10 hz7 hz8
  go_wp2_with (first
    | (refine wpList_load_all (by rfl) _ _ rfl w3.heap.size rfl _ _ _ _ hA Try.underlying25 rfl HSZ.out ?_)
    | (refine wpList_load_all (by rfl) _ _ rfl w6.heap.size rfl _ _ _ _ hC Try.underlying25 rfl HSZ.out ?_)
    | (refine wpList_eql_man (by rfl) _ _ rfl hR rfl rfl ?_))
  go_ret
  exact ⟨rfl, hB10⟩

end Go.Proofs.Ytebnmpgoiedicaa
