/-
  Package folder: the document's Take.
-/
import Derived.Test.YtgdbdhfomlkpdaaFoQ
import Derived.Test.YtgdbdhfomlkpdaaFoL
import Derived.Test.YtgdbdhfomlkpdaaFoH
namespace Go.Proofs.Ytgdbdhfomlkpdaa
open Go.RowKit

theorem itP_short {s : List UInt8} (h : s.length < 2) : itP s = none := by
  match s, h with
  | [], _ => rfl
  | [k], _ => rfl
theorem build_kind (k : Int) (W : World) : (Instr.build 33 #[(1, .int .i64 k)]).run Try.prog W = .ok (.agg (itA ⟨⟨#[]⟩, k, zid, 0⟩)) W := by kernel_rfl

set_option maxRecDepth 20000 in
set_option maxHeartbeats 8000000 in
theorem RTake_any (A : Option Addr) (n c : Nat) (l : List UInt8) (w : World) (h : Rd w 1 A n c (l.map b8)) (hn : n ≤ 1073741824) : Calls Try.prog 19 #[.slice A n c] w (TakePost l w) := by
  have hln := h.lenb
  have hnc := h.le
  by_cases h3 : (n : Int) < 3
  · have HT := Lib.hid (rt_no (l := l) (fun hc => by have := hc.1; omega))
    clear hln hnc
    go_enter Try.func19, Try.ntmps19
    go_wp2_with fail
    go_ret2
    refine ⟨none, 0, 0, ?_, ?_, Below.refl _ _⟩
    · rw [HT.out]
      rfl
    · rw [HT.out]
      exact OwnI.nil_ _ _
  have hn3 : 3 ≤ n := by omega
  have h3' : decide ((n : Int) < 3) = false := decide_eq_false h3
  obtain ⟨x0, x1, x2, q, hq⟩ : ∃ x0 x1 x2 q, l = x0 :: x1 :: x2 :: q := by
    match l, hln with
    | x0 :: x1 :: x2 :: q, _ => exact ⟨x0, x1, x2, q, rfl⟩
    | [], hl => simp at hl; omega
    | [_], hl => simp at hl; omega
    | [_, _], hl => simp at hl; omega
  have hi0 : ∀ W, (Instr.indexAt 25 (.slice A n c) (.int .i64 0)).run Try.prog W = .ok (.pointer (some (at_ A 0))) W := run_index_rd (P := Try.prog) (A := A) (n := n) (c := c) eb h.nil h.le 0 (by omega)
  have hi1 : ∀ W, (Instr.indexAt 25 (.slice A n c) (.int .i64 1)).run Try.prog W = .ok (.pointer (some (at_ A 1))) W := run_index_rd (P := Try.prog) (A := A) (n := n) (c := c) eb h.nil h.le 1 (by omega)
  have hi2 : ∀ W, (Instr.indexAt 25 (.slice A n c) (.int .i64 2)).run Try.prog W = .ok (.pointer (some (at_ A 2))) W := run_index_rd (P := Try.prog) (A := A) (n := n) (c := c) eb h.nil h.le 2 (by omega)
  obtain ⟨X0, hX0⟩ : ∃ X0, (x0.toNat : Int) = X0 := ⟨_, rfl⟩
  obtain ⟨X1, hX1⟩ : ∃ X1, (x1.toNat : Int) = X1 := ⟨_, rfl⟩
  obtain ⟨N, hN⟩ : ∃ N, x2.toNat = N := ⟨_, rfl⟩
  have hc0 : w.cell? (at_ A 0) = some (.int .u8 X0) := (h.cell 0 (b8 x0) (by rw [hq]; rfl)).trans (by rw [← hX0]; rfl)
  have hc1 : w.cell? (at_ A 1) = some (.int .u8 X1) := (h.cell 1 (b8 x1) (by rw [hq]; rfl)).trans (by rw [← hX1]; rfl)
  have hc2 : ∀ W, Below w.heap.size w W → W.cell? (at_ A 2) = some (.int .u8 (N : Int)) := fun W hb => ((h.below hb).cell 2 (b8 x2) (by rw [hq]; rfl)).trans (by rw [← hN]; rfl)
  have hc2w := hc2 w (Below.refl _ _)
  have HC2 := Lib.hid hc2
  have hgd : l.getD 2 0 = x2 := by rw [hq]; rfl
  have hN255 : N ≤ 255 := by have := x2.toNat_lt; omega
  have hN0 : (0 : Int) ≤ N := by omega
  clear hc2 h3
  by_cases e0 : ¬ X0 = 68
  · have HT := Lib.hid (rt_no (l := l) (fun hc => by
      have := hc.2.1
      rw [hq] at this
      simp only [List.take_succ_cons, List.take_zero, List.cons.injEq] at this
      apply e0
      rw [← hX0, this.1]
      rfl))
    have e0' : (X0 != 68) = true := by simpa using e0
    clear hln hnc e0 hX0 hX1 hN hq hgd
    go_enter Try.func19, Try.ntmps19
    go_wp2_with fail
    go_ret2
    refine ⟨none, 0, 0, ?_, ?_, Below.refl _ _⟩
    · rw [HT.out]
      rfl
    · rw [HT.out]
      exact OwnI.nil_ _ _
  obtain rfl : X0 = 68 := by omega
  clear e0
  by_cases e1 : ¬ X1 = 49
  · have HT := Lib.hid (rt_no (l := l) (fun hc => by
      have := hc.2.1
      rw [hq] at this
      simp only [List.take_succ_cons, List.take_zero, List.cons.injEq] at this
      apply e1
      rw [← hX1, this.2.1]
      rfl))
    have e1' : (X1 != 49) = true := by simpa using e1
    clear hln hnc e1 hX0 hX1 hN hq hgd
    go_enter Try.func19, Try.ntmps19
    go_wp2_with fail
    go_ret2
    refine ⟨none, 0, 0, ?_, ?_, Below.refl _ _⟩
    · rw [HT.out]
      rfl
    · rw [HT.out]
      exact OwnI.nil_ _ _
  obtain rfl : X1 = 49 := by omega
  clear e1
  by_cases e2 : (64 : Int) < N
  · have HT := Lib.hid (rt_no (l := l) (fun hc => by
      have := hc.2.2
      rw [hgd, hN] at this
      omega))
    have e2' : decide ((64 : Int) < N) = true := decide_eq_true e2
    clear hln hnc e2 hX0 hX1 hN hq hgd
    go_enter Try.func19, Try.ntmps19
    go_wp2_with fail
    go_ret2
    refine ⟨none, 0, 0, ?_, ?_, Below.refl _ _⟩
    · rw [HT.out]
      rfl
    · rw [HT.out]
      exact OwnI.nil_ _ _
  have hN64 : (N : Int) ≤ 64 := by omega
  have e2' : decide ((64 : Int) < N) = false := decide_eq_false e2
  have hhead : headD l := by
    refine ⟨by rw [hln]; exact hn3, ?_, by rw [hgd, hN]; omega⟩
    rw [hq]
    simp only [List.take_succ_cons, List.take_zero, List.cons.injEq, and_true]
    exact ⟨UInt8.toNat_inj.1 (by show x0.toNat = 68; omega), UInt8.toNat_inj.1 (by show x1.toNat = 49; omega)⟩
  have HHEAD := Lib.hid hhead
  have hgN : (l.getD 2 0).toNat = N := by rw [hgd, hN]
  have HGN := Lib.hid hgN
  have HLN := Lib.hid hln
  have hlA : ∀ q, blk A = some q → q < w.heap.size := fun q hq => by
    have h1 := World.block_lt_of_cell? w _ hc0
    rwa [at_block A 0 q hq] at h1
  clear hX0 hX1 hN hq hgd e2 hhead hgN hln
  go_enter Try.func19, Try.ntmps19
  go_wp2_with fail
  clear hc0 hc1 hc2w hi0 hi1
  go_loopw [4, 5, 6] (fun v pv i wr => ∃ (j p : Nat) (its : List It) (A' : Option Addr) (n' c' : Nat), i = .int .i64 j ∧ j ≤ N ∧ v = .slice A' n' c' ∧ pv = .int .i64 p ∧ p ≤ n ∧ OwnI wr w.heap.size A' n' c' its ∧ Hid (its.length = j) ∧ Hid (goI N [] (l.drop 3) = goI (N - j) its (l.drop p)) ∧ Below w.heap.size w wr) (fun _ _ i _ => N - (intOf i).toNat)
  case atStart => exact ⟨0, 3, [], _, _, _, rfl, by omega, rfl, rfl, hn3, OwnI.nil_ _ _, rfl, rfl, Below.refl _ _⟩
  case round =>
    obtain ⟨j, p, its, A', n', c', rfl, hj, rfl, rfl, hpn, ho, hlen, hgo, hb⟩ := hrel
    have hB := hb.size
    have hc2 := HC2.out wr hb
    have hp0 : (0 : Int) ≤ p := by omega
    have hp1 : (p : Int) ≤ 1073741824 := by omega
    by_cases hjN : j < N
    · by_cases hs : (n : Int) < (p : Int) + 2
      · have HT := Lib.hid (rt_fail HHEAD.out (by rw [HGN.out, hgo.out, show N - j = (N - j - 1) + 1 by omega]; exact goI_none (itP_short (by rw [List.length_drop, HLN.out]; omega))))
        clear hgo hlen
        go_wp2_with fail
        go_ret2
        refine ⟨none, 0, 0, ?_, ?_, hb⟩
        · rw [HT.out]
          rfl
        · rw [HT.out]
          exact OwnI.nil_ _ _
      · have hs' : decide ((n : Int) < (p : Int) + 2) = false := decide_eq_false hs
        have hpn2 : p + 2 ≤ n := by omega
        have hpl : p < l.length := by rw [HLN.out]; omega
        obtain ⟨k0, hk0⟩ : ∃ k0, l[p] = k0 := ⟨_, rfl⟩
        have hdp : l.drop p = k0 :: l.drop (p + 1) := by rw [List.drop_eq_getElem_cons hpl, hk0]
        obtain ⟨K0, hK0⟩ : ∃ K0, (k0.toNat : Int) = K0 := ⟨_, rfl⟩
        have hK00 : 0 ≤ K0 := by omega
        have hK255 : K0 ≤ 255 := by have := k0.toNat_lt; omega
        have hip := run_index_rd (P := Try.prog) (A := A) (n := n) (c := c) eb h.nil h.le p (by omega)
        rw [Nat.mul_one] at hip
        have hcp : wr.cell? (at_ A p) = some (.int .u8 K0) := ((h.below hb).cell p (b8 k0) (by rw [List.getElem?_map, List.getElem?_eq_getElem hpl, hk0]; rfl)).trans (by rw [← hK0]; rfl)
        obtain ⟨L, m, E, hTT⟩ : ∃ L m E, ttR (l.drop (p + 1)) = (L, m, E) := ⟨_, _, _, rfl⟩
        have hTl := tt_le (l.drop (p + 1))
        rw [hTT, List.length_drop, HLN.out] at hTl
        dsimp only at hTl
        obtain ⟨hm, hL⟩ := hTl
        have hsl1 := run_slice_l_rd (P := Try.prog) (A := A) (n := n) (c := c) eb (kl := .i64) (p + 1) (L := (p : Int) + 1) (by omega) (by omega)
        have hm0 : (0 : Int) ≤ m := by omega
        have hm1 : (m : Int) ≤ 1073741824 := by omega
        have hko : ItOk ⟨⟨#[]⟩, K0, zid, 0⟩ := ⟨zid_len, by dsimp only; omega, by dsimp only; omega, by dsimp only; omega, by dsimp only; omega, Nat.zero_le _⟩
        have HK0 := Lib.hid hK0
        have HTT := Lib.hid hTT
        have HDP := Lib.hid hdp
        have HM := Lib.hid hm
        have HLL := Lib.hid hL
        clear hk0 hdp hK0 hTT hm hL hpl hs
        go_wp2_with (first
          | (refine wpList_build_run rfl _ _ rfl #[(1, .int .i64 K0)] (by rw [List.map_toArray]; rfl) _ (build_kind K0 _) ?_)
          | (refine wpList_alloc_zero rfl _ rfl (itA itZ) zero_it ?_; intro w1 hg1 hb1 hz1; clear hz1)
          | (refine wpList_store_all rfl _ _ _ rfl wr.heap.size rfl _ _ _ (by rfl) hg1 (size_it hko) (itA_same itZ_ok hko) itA_one ?_; intro w2 hg2 hgr2 hz2; clear hz2; have hB2 : ItB w2 wr.heap.size ⟨⟨#[]⟩, K0, zid, 0⟩ := ⟨hko, hg2⟩; have hbr2 : Below wr.heap.size wr w2 := hb1.grown hgr2 hb1.size (fun g hg => by injection hg with hg; omega)))
        have hw2 := hb.trans (hbr2.mono hB)
        clear hg1 hb1 hgr2 hg2 hcp hip
        refine (RTakeText_any _ (n - (p + 1)) (c - (p + 1)) (l.drop (p + 1)) _ ((h.below hw2).drop_ (by omega)) (by omega)).mono ?_
        rintro e w3 ⟨A3, n3, c3, rfl, ho3, hbl3⟩
        rw [HTT.out] at ho3 ⊢
        dsimp only at ho3 ⊢
        have hB3 := hB2.below hbl3
        have hbr3 : Below wr.heap.size wr w3 := hbr2.trans (hbl3.mono hbr2.size)
        have hw3 := hb.trans (hbr3.mono hB)
        have hlt2 : wr.heap.size < w2.heap.size := hB2.lt
        have hne3 : ∀ q, blk A3 = some q → q ≠ wr.heap.size := fun q hq e => by
          have h1 := (ho3.lt q hq).1
          omega
        clear hbl3 hB2 hbr2 hw2 hsl1
        by_cases hE : E ≠ 0
        · have HT := Lib.hid (rt_fail HHEAD.out (by rw [HGN.out, hgo.out, show N - j = (N - j - 1) + 1 by omega, HDP.out]; exact goI_none (itP_none1 HTT.out hE)))
          have hE' : (E != 0) = true := by simpa using hE
          clear hgo hlen hE
          go_wp2_with fail
          go_ret2
          refine ⟨none, 0, 0, ?_, ?_, hw3⟩
          · rw [HT.out]
            rfl
          · rw [HT.out]
            exact OwnI.nil_ _ _
        obtain rfl : E = 0 := by simpa using hE
        clear hE
        by_cases hs2 : (n : Int) < (p : Int) + 1 + m + 32
        · have HT := Lib.hid (rt_fail HHEAD.out (by rw [HGN.out, hgo.out, show N - j = (N - j - 1) + 1 by omega, HDP.out]; exact goI_none (itP_none2 HTT.out (by rw [List.length_drop, HLN.out]; omega))))
          have hs2' : decide ((n : Int) < (p : Int) + 1 + m + 32) = true := decide_eq_true hs2
          clear hgo hlen hs2
          go_wp2_with fail
          go_ret2
          refine ⟨none, 0, 0, ?_, ?_, hw3⟩
          · rw [HT.out]
            rfl
          · rw [HT.out]
            exact OwnI.nil_ _ _
        have hs2' : decide ((n : Int) < (p : Int) + 1 + m + 32) = false := decide_eq_false hs2
        have hnsh : ¬ (l.drop (p + 1)).length - m < 32 := by rw [List.length_drop, HLN.out]; omega
        obtain ⟨P1, hP1⟩ : ∃ P1 : Nat, p + 1 + m = P1 := ⟨_, rfl⟩
        have hP1i : (p : Int) + 1 + m = P1 := by omega
        rw [hP1i] at hs2'
        have hP132 : P1 + 32 ≤ n := by omega
        have hdd : (l.drop (p + 1)).drop m = l.drop P1 := by rw [List.drop_drop, hP1]
        have hdd2 : (l.drop (p + 1)).drop (m + 32) = l.drop (P1 + 32) := by rw [List.drop_drop, ← hP1]; congr 1
        rcases hA2 : cutA A c P1 1 with _ | ad
        · exfalso
          have hx := h.drop_ (k := P1) (by omega)
          rw [hA2] at hx
          have := hx.nil rfl
          have := hx.le
          omega
        have hrt := h.cut (lo := P1) (hi := P1 + 32) (by omega) (by omega)
        rw [hA2, Nat.mul_one, Nat.mul_one, ← List.map_drop, ← List.map_take, show P1 + 32 - P1 = 32 by omega] at hrt
        have hRT : ((l.drop P1).take 32).length = 32 := by rw [List.length_take, List.length_drop, HLN.out]; omega
        obtain ⟨RT, hRTe⟩ : ∃ RT, (l.drop P1).take 32 = RT := ⟨_, rfl⟩
        rw [hRTe] at hrt hRT
        have hsl2 := run_slice_lh_rd (P := Try.prog) (A := A) (n := n) (c := c) eb (kl := .i64) (kh := .i64) P1 (P1 + 32) (L := (P1 : Int)) (H := (P1 : Int) + 32) rfl (by omega) (by omega) (by omega)
        rw [hA2, show P1 + 32 - P1 = 32 by omega] at hsl2
        have hsl3 := run_slice_l_rd (P := Try.prog) (A := A) (n := n) (c := c) eb (kl := .i64) (P1 + 32) (L := (P1 : Int) + 32) (by omega) hP132
        have harr := run_arr_id ad (c - P1)
        have hblk : blk (some ad) = blk A := by rw [← hA2]; exact blk_cutA _ _ _ _
        have HRT := Lib.hid hRT
        have HRTE := Lib.hid hRTe
        have HSH := Lib.hid hnsh
        have HDD := Lib.hid hdd
        have HDD2 := Lib.hid hdd2
        have HP1 := Lib.hid hP1
        have hlad : ∀ q, blk (some ad) = some q → q < w.heap.size := fun q hq => hlA q (hblk.symm.trans hq)
        have hP1b : (P1 : Int) ≤ 1073741824 := by omega
        have hP10 : (0 : Int) ≤ P1 := by omega
        have hwp : IntKind.i64.wrap ((P1 : Int) + 32) = (P1 : Int) + 32 := IntWalk.i64_in _ (by omega)
        clear hA2 hRT hRTe hnsh hdd hdd2 hP1 hs2 hblk
        go_upto_region 15 with fail
        go_cut [] from 76 to 87 (fun wx => ItB wx wr.heap.size ⟨⟨L.toArray⟩, K0, RT, 0⟩ ∧ Below wr.heap.size wr wx)
        case first =>
          have hstr := fun b : KeepBut w3 wr.heap.size => str_rd (ho3.rd.but hne3 b)
          have hld := fun b : KeepBut w3 wr.heap.size => load_id ((hrt.below hw3).but (fun q hq e => by have := hlad q hq; omega) b)
          have hLs : (⟨L.toArray⟩ : ByteArray).size ≤ maxLen := by
            have e1 : (⟨L.toArray⟩ : ByteArray).size = L.length := by simp [ByteArray.size]
            rw [e1]
            have := HLL.out
            unfold maxLen
            omega
          have hX7 := hB3.setName ⟨L.toArray⟩ hLs
          have p0 := hB3.name
          have f0 := hB3.free 0
          refine wp_region_plan (MPlan.reads [0, 1, 2, 3, 4, 5, 6, 7, 8, 9] (.one 10 (.read 11 (.one 12 .fin)))) (fun x => ∃ b : KeepBut w3 wr.heap.size, x = b.at') (by kernel_rfl) (by kernel_rfl) (by kernel_rfl) (fun _ _ _ _ _ h => h) ⟨⟨w3.drew, fun _ _ _ => rfl⟩, rfl⟩ ?_
          iterate 7 (refine plan_read (o := ⟨_, _, _, _, _, _⟩) (by rfl) (by rfl) ?_; go_big_quiet_step (fail); refine wpQuiet_nil ?_)
          refine plan_arr (o := ⟨_, _, _, _, _, _⟩) (by rfl) rfl (by rfl) _ rfl _ (fun w' => harr w') ?_
          refine plan_load (o := ⟨_, _, _, _, _, _⟩) (by rfl) rfl (by rfl) _ rfl _ (fun w' hS => by obtain ⟨b, rfl⟩ := hS; exact hld b) ?_
          simp only [Act.put, List.setIfInBounds_toArray, List.set_cons_succ, List.set_cons_zero]
          refine plan_read (o := ⟨_, _, _, _, _, _⟩) (by rfl) (by rfl) ?_
          go_big_quiet_step (fail)
          refine wpQuiet_nil ?_
          refine plan_one (o := ⟨_, _, _, _, _, _⟩) (by rfl) (fun K hK => ?_)
          go_wp2_with fail
          refine hK _ _ ⟨⟨(w3.setCell ⟨wr.heap.size, 0, none⟩ (.string ⟨L.toArray⟩)).drew, fun k _ hk => heap_setCell_ne _ (Ne.symm hk)⟩, rfl⟩ ?_
          clear hK
          refine plan_read (o := ⟨_, _, _, _, _, _⟩) (by rfl) (by rfl) ?_
          go_big_quiet_step (fail)
          refine wpQuiet_nil ?_
          refine plan_one (o := ⟨_, _, _, _, _, _⟩) (by rfl) (fun K hK => ?_)
          have hb7 := (hbr3.setCell (p := ⟨wr.heap.size, 0, none⟩) (Nat.le_refl _) (.string ⟨L.toArray⟩)).drew
          have hX7' : ItB (w3.setCell ⟨wr.heap.size, 0, none⟩ (.string ⟨L.toArray⟩)).drew wr.heap.size _ := ⟨hX7.ok, hX7.obj⟩
          clear p0 f0 hstr hld
          go_wp2_with (refine wpList_store_itid rfl _ _ rfl rfl rfl HRT.out hX7' ?_; intro w9 hX9 hgr9 hz9)
          have hb9 : Below wr.heap.size wr w9 := hb7.grown hgr9 hb7.size (fun q hq => by injection hq with hq; omega)
          refine hK _ _ ⟨⟨w9, fun k hk hne => (hgr9.block k (by have := hk; simpa [World.setCell] using hk) (fun e => by injection e with e; exact hne e)).trans (heap_setCell_ne _ (Ne.symm hne))⟩, rfl⟩ ?_
          clear hK
          refine plan_fin ?_
          go_wp2_with fail
          go_meet
          exact ⟨hX9, hb9⟩
        case rest =>
          obtain ⟨hBc, hbrc⟩ := hcut
          have hwc := hb.trans (hbrc.mono hB)
          obtain ⟨V, M, E2, hTC⟩ : ∃ V M E2, tcR (l.drop (P1 + 32)) = (V, M, E2) := ⟨_, _, _, rfl⟩
          have htc := tc_le (l.drop (P1 + 32))
          rw [hTC, List.length_drop, HLN.out] at htc
          dsimp only at htc
          obtain ⟨hMl, hV, hE20, hE24⟩ := htc
          have HCC := Lib.hid (RTakeCount_any _ (n - (P1 + 32)) (c - (P1 + 32)) (l.drop (P1 + 32)) _ ((h.below hwc).drop_ hP132) (by omega))
          rw [hTC] at HCC
          dsimp only at HCC
          have hTC2 : tcR ((l.drop (p + 1)).drop (m + 32)) = (V, M, E2) := by rw [HDD2.out]; exact hTC
          have HTC2 := Lib.hid hTC2
          clear hTC2
          have hV0 : (0 : Int) ≤ V := by omega
          have hM0 : (0 : Int) ≤ M := by omega
          have hM1 : (M : Int) ≤ 1073741824 := by omega
          have hV1 : (V : Int) ≤ 18446744073709551615 := by omega
          clear hTC hV hE20 hE24 hsl2 harr hrt
          by_cases hE2 : E2 ≠ 0
          · have HT := Lib.hid (rt_fail HHEAD.out (by rw [HGN.out, hgo.out, show N - j = (N - j - 1) + 1 by omega, HDP.out]; exact goI_none (itP_none3 HTT.out HSH.out HTC2.out (.inl hE2))))
            have hE2' : (E2 != 0) = true := by simpa using hE2
            clear hgo hlen hE2
            go_wp2_with fail
            refine HCC.out.mono ?_
            rintro e w6 ⟨rfl, rfl⟩
            go_wp2_with fail
            go_ret2
            refine ⟨none, 0, 0, ?_, ?_, hwc⟩
            · rw [HT.out]
              rfl
            · rw [HT.out]
              exact OwnI.nil_ _ _
          obtain rfl : E2 = 0 := by simpa using hE2
          clear hE2
          by_cases hmx : (9223372036854775807 : Int) < V
          · have HT := Lib.hid (rt_fail HHEAD.out (by rw [HGN.out, hgo.out, show N - j = (N - j - 1) + 1 by omega, HDP.out]; exact goI_none (itP_none3 HTT.out HSH.out HTC2.out (.inr (by omega)))))
            have hmx' : decide ((9223372036854775807 : Int) < V) = true := decide_eq_true hmx
            clear hgo hlen hmx
            go_wp2_with fail
            refine HCC.out.mono ?_
            rintro e w6 ⟨rfl, rfl⟩
            go_wp2_with fail
            go_ret2
            refine ⟨none, 0, 0, ?_, ?_, hwc⟩
            · rw [HT.out]
              rfl
            · rw [HT.out]
              exact OwnI.nil_ _ _
          have hsome := itP_some (k := k0) HTT.out HSH.out HTC2.out (by omega)
          rw [HDD.out, HDD2.out, HRTE.out, HK0.out, List.drop_drop] at hsome
          have hmx' : (V : Int) ≤ 9223372036854775807 := by omega
          have hws : IntKind.i64.wrap (V : Int) = V := IntWalk.i64_in _ (by omega)
          have p3 := hBc.size
          have f3 := hBc.free 34
          have hB8 := hBc.setSize (V : Int) (by omega) hmx'
          have hbr8 := hbrc.setCell (p := ⟨wr.heap.size, 34, none⟩) (Nat.le_refl _) (.int .i64 (V : Int))
          have hgo2 : goI N [] (l.drop 3) = goI (N - (j + 1)) (its ++ [⟨⟨L.toArray⟩, K0, RT, V⟩]) (l.drop (P1 + 32 + M)) := by
            rw [hgo.out, show N - j = (N - (j + 1)) + 1 by omega, HDP.out]
            exact goI_some hsome
          have HGO := Lib.hid hgo2
          have hjn : its.length = n' := ho.len
          have hj2 : n' ≤ 64 := by have := hlen.out; omega
          have HJN := Lib.hid (hjn.symm.trans hlen.out)
          have hP1i' := HP1.out
          have hcast : ((P1 + 32 + M : Nat) : Int) = (P1 : Int) + 32 + M := by omega
          clear hmx hsome hgo hgo2 hjn hlen hV1 hP1i'
          go_wp2_with fail
          refine HCC.out.mono ?_
          rintro e w6 ⟨rfl, rfl⟩
          have ho8 := ho.below hbr8
          have hw8 := hb.trans (hbr8.mono hB)
          clear HCC
          go_wp2_with (first
            | (refine wpList_load_all (by rfl) _ _ rfl wr.heap.size rfl _ _ _ _ hB8.obj Try.underlying33 rfl (size_it hB8.ok) ?_)
            | (refine wpList_slice_it rfl _ rfl rfl hB8.ok ?_; intro w9 hi9 hbl9; have ho9 := ho8.below hbl9; have hw9 := hw8.trans (hbl9.mono hw8.size))
            | (at_builtin; refine wpList_app rfl _ _ rfl ei ho9.own rfl hi9.rd rfl (its_one _) (by omega) (by unfold maxLen; omega) hw9.size ?_; intro A5 c5 w10 ho10 hg10 hq10))
          have hw10 := hw9.grown hg10 hw9.size (fun g hg => (ho9.own.lt g hg).1)
          have hoI : OwnI w10 w.heap.size A5 (n' + 1) c5 (its ++ [⟨⟨L.toArray⟩, K0, RT, V⟩]) := ⟨by rw [its_append]; exact ho10, fun y hy => by
            rcases List.mem_append.1 hy with hy | hy
            · exact ho.ok y hy
            · exact hi9.ok y hy⟩
          go_roundw
          case rel =>
            refine ⟨j + 1, P1 + 32 + M, its ++ [⟨⟨L.toArray⟩, K0, RT, V⟩], A5, n' + 1, c5, by go_num, by omega, rfl, by rw [hcast], by omega, hoI, ?_, HGO, hw10⟩
            show (its ++ [_]).length = j + 1
            have h1 := ho.len
            have h2 := HJN.out
            rw [List.length_append]
            simp only [List.length_cons, List.length_nil]
            omega
          case measure => simp [intOf]; omega
    · have e : j = N := by omega
      subst e
      have hg0 : goI j [] (l.drop 3) = some (its, l.drop p) := by
        rw [hgo.out, Nat.sub_self]
        rfl
      have hend := rt_end HHEAD.out (by rw [HGN.out]; exact hg0)
      have hRB := RBytes_any ho.its
      obtain ⟨F1, hF1⟩ : ∃ F1, (foR its).1 = F1 := ⟨_, rfl⟩
      obtain ⟨F2, hF2⟩ : ∃ F2, (foR its).2 = F2 := ⟨_, rfl⟩
      rw [hF1, hF2] at hRB hend
      have HRB := Lib.hid hRB
      clear hRB hF1 hF2 hg0 hgo
      by_cases hz : F2 ≠ 0
      · have HT := Lib.hid (hend.trans (if_neg (fun hc => hz hc.1)))
        have hz' : (F2 != 0) = true := by simpa using hz
        clear hend hz
        go_wp2_with fail
        refine HRB.out.mono ?_
        rintro e w1 ⟨A1, n1, c1, rfl, ho1, hbl1⟩
        go_wp2_with fail
        go_ret2
        refine ⟨none, 0, 0, ?_, ?_, hb.trans (hbl1.mono hB)⟩
        · rw [HT.out]
          rfl
        · rw [HT.out]
          exact OwnI.nil_ _ _
      obtain rfl : F2 = 0 := by simpa using hz
      clear hz
      by_cases hc : F1 = l
      · have HT := Lib.hid (hend.trans (if_pos ⟨rfl, hc⟩))
        subst hc
        clear hend
        go_wp2_with fail
        refine HRB.out.mono ?_
        rintro e w1 ⟨A1, n1, c1, rfl, ho1, hbl1⟩
        have hw1 := hb.trans (hbl1.mono hB)
        have hs1 := str_rd ho1.rd
        have hs2 := str_rd (h.below hw1)
        go_wp2_with fail
        go_ret2
        refine ⟨A', n', c', ?_, ?_, hw1⟩
        · rw [HT.out]
          rfl
        · rw [HT.out]
          exact ho.below hbl1
      · have HT := Lib.hid (hend.trans (if_neg (fun hh => hc hh.2)))
        have hcb : (F1 == l) = false := by simpa using hc
        clear hend hc
        go_wp2_with fail
        refine HRB.out.mono ?_
        rintro e w1 ⟨A1, n1, c1, rfl, ho1, hbl1⟩
        have hw1 := hb.trans (hbl1.mono hB)
        have hs1 := str_rd ho1.rd
        have hs2 := str_rd (h.below hw1)
        go_wp2_with fail
        go_ret2
        refine ⟨none, 0, 0, ?_, ?_, hw1⟩
        · rw [HT.out]
          rfl
        · rw [HT.out]
          exact OwnI.nil_ _ _

end Go.Proofs.Ytgdbdhfomlkpdaa
