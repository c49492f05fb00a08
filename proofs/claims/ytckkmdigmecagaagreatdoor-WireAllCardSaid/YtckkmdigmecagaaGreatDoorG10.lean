/-
  Joined texts of this claim's author (each began as a text of its own; each says itself what it holds).
-/
import Derived.Test.YtckkmdigmecagaaGreatDoorG09
set_option linter.unusedVariables false
set_option linter.unusedSimpArgs false

/-
  The document's Read.
-/
namespace Go.Proofs.YtckkmdigmecagaaGreatDoor
open Go.RowKit

set_option maxRecDepth 20000 in
set_option maxHeartbeats 16000000 in
theorem Read_any {w : World} {A : Option Addr} {n c : Nat} {s : Bs} (h : Rd w 1 A n c (s.map b8)) (hn : n ≤ 1048576) (hA : ∀ k, blk A = some k → k < w.heap.size) :
    Calls Tryz.prog 14 #[.slice A n c] w (Readed s w) := by
  have hl := h.lenb
  have HL := Lib.hid hl
  have HH := Lib.hid h
  have HAB := Lib.hid (show ∀ k, blk A = some k → k < w.heap.size from hA)
  clear hl h hA
  go_enter Tryz.func14, Tryz.ntmps14
  go_upto_region 1 with (refine wpList_alloc_zero rfl _ rfl (toldW none 0 0 none 0 0 0 false) zero_told ?_; intro w1 hg1 hb1 hz1; clear hz1)
  have hlt1 : w.heap.size < w1.heap.size := (Array.getElem?_eq_some_iff.1 hg1).1
  obtain ⟨r1, hr1⟩ : ∃ r, w1.heap.size = r := ⟨_, rfl⟩
  go_wp2_with (refine wpList_alloc_zero rfl _ rfl (toldW none 0 0 none 0 0 0 false) zero_told ?_; intro w2 hg2 hb2 hz2; clear hz2)
  have hst : RInv s w w.heap.size w1.heap.size w2 0 none 0 0 none 0 0 [] [] := ⟨(hb2.block _ hlt1).trans hg1, hg2, Reqs.nil_ _ _, Own.nil_ _ _ _ _, by simp [blk], by simp, hb1.trans (hb2.mono hb1.size), ⟨rfl, by omega⟩, by omega⟩
  rw [hr1] at hst hlt1
  have HST := Lib.hid hst
  have HR := Lib.hid hlt1
  have hr01 : w.heap.size ≠ r1 := by omega
  clear hst hg1 hg2 hb1 hb2 hr1 hlt1
  go_loopw [4] (fun i wr => ∃ (p : Nat) (L : Option Addr) (nL cL : Nat) (E : Option Addr) (nE cE : Nat) (zs : List Int) (l : List RP), i = .int .i64 (p : Int) ∧ p ≤ n ∧ Hid (RInv s w w.heap.size r1 wr p L nL cL E nE cE zs l)) (fun i _ => n - (intOf i).toNat)
  case atStart => exact ⟨0, none, 0, 0, none, 0, 0, [], [], rfl, by omega, HST.out⟩
  case round =>
    clear HST
    obtain ⟨p, L, nL, cL, E, nE, cE, zs, l, rfl, hp, hI⟩ := hrel
    by_cases hlt : p < n
    · have hp' : (p : Int) < n := by omega
      have HHD := Lib.hid (Rhead_any (HH.out.below hI.out.bel) hn p hp)
      clear hlt
      go_wp2_with fail
      refine HHD.out.mono ?_
      rintro e w2 ⟨hb2, hr⟩
      have HI2 := Lib.hid (hI.out.below hb2)
      have HAPW := Lib.hid (show ∀ k, (k ∈ reqB L l ∨ blk E = some k) → k < wr.heap.size from fun k hk => hk.elim (fun h1 => (hI.out.rq.in_ k h1).2) (fun h1 => (hI.out.en.lt k h1).2))
      have HRW := Lib.hid (show r1 + 1 ≤ wr.heap.size from (Array.getElem?_eq_some_iff.1 hI.out.g1).1)
      clear HHD hI
      rcases hr with ⟨y, hf, hy4, rfl⟩ | ⟨q, er, her, hf, rfl⟩ | ⟨M, T, fs, q, F, nF, cF, hpq, hqs, hfs, hoF, hf, rfl⟩
      · have HF := Lib.hid hf
        have HY := Lib.hid hy4
        clear hf hy4 hb2
        go_wp2_with (first
          | (refine wpList_alloc_zero rfl _ rfl reqZ zero_req ?_; intro w3 hg3 hb3 hz3; clear hz3)
          | (refine wpList_store_all rfl _ _ _ rfl w2.heap.size rfl _ reqZ reqZ rfl hg3 size_req rfl req_one ?_; intro w4 hg4 hgr4 hz4; clear hz4; have hb24 : Below w2.heap.size w2 w4 := hb3.grown hgr4 hb3.size (fun q hq => by obtain rfl := Option.some.inj hq; exact Nat.le_refl _); have HI4 := Lib.hid (HI2.out.below hb24); have G0 := HI4.out.g0; have G1 := HI4.out.g1; clear hgr4; clear hg4; clear hg3; clear hb3)
          | (refine wpList_load_run rfl 37 _ rfl _ rfl _ (load_told G1) ?_)
          | (refine wpList_store_all rfl _ _ _ rfl w.heap.size rfl _ (toldW none 0 0 none 0 0 0 false) _ rfl G0 size_told rfl told_one ?_; intro wz hgz hgrz hzz; clear hzz))
        refine bodyPost_ret (results_cell_row rfl _ _ w.heap.size _ _ _ _ rfl hgz Tryz.underlying37 rfl (by kernel_rfl)) rfl ?_
        exact rinv_end HI4.out (Nat.le_refl _) HR.out hgrz HF.out HY.out
      · have HF := Lib.hid hf
        have HE := Lib.hid her
        have e1 : (er == 0) = false := by simpa using her
        have e2 : (er != 0) = true := by simpa using her
        clear hf her hb2
        go_wp2_with (first
          | (refine wpList_alloc_zero rfl _ rfl reqZ zero_req ?_; intro w3 hg3 hb3 hz3; clear hz3)
          | (refine wpList_store_all rfl _ _ _ rfl w2.heap.size rfl _ reqZ reqZ rfl hg3 size_req rfl req_one ?_; intro w4 hg4 hgr4 hz4; clear hz4; have hb24 : Below w2.heap.size w2 w4 := hb3.grown hgr4 hb3.size (fun q hq => by obtain rfl := Option.some.inj hq; exact Nat.le_refl _); have HI4 := Lib.hid (HI2.out.below hb24); clear hgr4; clear hg4; clear hg3; clear hb3; obtain ⟨q1, q2, q3, q4, G1, G0, q7, q8, q9⟩ := told_stores HI4.out.g0 HI4.out.g1 HR.out (Nat.le_refl _) HI4.out.bel er)
          | (refine wpList_load_run rfl 37 _ rfl _ rfl _ (load_told G1) ?_)
          | (refine wpList_store_all rfl _ _ _ rfl w.heap.size rfl _ (toldW none 0 0 none 0 0 0 false) _ rfl G0 size_told rfl told_one ?_; intro wz hgz hgrz hzz; clear hzz))
        refine bodyPost_ret (results_cell_row rfl _ _ w.heap.size _ _ _ _ rfl hgz Tryz.underlying37 rfl (by kernel_rfl)) rfl ?_
        exact rinv_fin HI4.out (Nat.le_refl _) HR.out q7 q8 q9 hgrz HF.out (by simp [overW, HE.out])
      · have hqn : q ≤ n := by have := HL.out; omega
        have HF := Lib.hid hf
        have hqneg : decide ((q : Int) < 0) = false := decide_eq_false (by omega)
        obtain ⟨r2, hr2⟩ : ∃ r, w2.heap.size = r := ⟨_, rfl⟩
        have hsz2 := hb2.size
        have hlt2 : r1 < r2 := by
          have := (Array.getElem?_eq_some_iff.1 HI2.out.g1).1
          omega
        have hoF1 := hoF.lt
        have hin := HI2.out.rq.in_
        have hapR : ∀ k, (k ∈ reqB L l ∨ blk E = some k) → k < wr.heap.size := HAPW.out
        have hoB : r1 + 1 ≤ wr.heap.size := HRW.out
        have HOF := Lib.hid (hoF.mono hoB)
        have HFB := Lib.hid (fun k (hk : blk F = some k) => (show k ∉ reqB L l ∧ blk E ≠ some k ∧ k ≠ r2 ∧ k < r2 by
          have h1 := hoF1 k hk
          exact ⟨fun h2 => by have := hapR k (.inl h2); omega, fun h2 => by have := hapR k (.inr h2); omega, by omega, by omega⟩))
        have HAP := Lib.hid (fun k hk => Nat.lt_of_lt_of_le (hapR k hk) (show wr.heap.size ≤ r2 by omega))
        have HFS := Lib.hid hfs
        have HPQ := Lib.hid (show p < q ∧ q ≤ n from ⟨hpq, hqn⟩)
        have HLT := Lib.hid hlt2
        clear hf hb2 hoF hoF1 hin hapR hoB hfs hpq hqs hsz2
        go_wp2_with (first
          | (refine wpList_alloc_zero rfl _ rfl reqZ zero_req ?_; intro w3 hg3 hb3 hz3; clear hz3)
          | (refine wpList_store_all rfl _ _ _ rfl w2.heap.size rfl _ reqZ _ rfl hg3 size_req rfl req_one ?_; intro w4 hg4 hgr4 hz4; clear hz4; have hb24 : Below w2.heap.size w2 w4 := hb3.grown hgr4 hb3.size (fun q hq => by obtain rfl := Option.some.inj hq; exact Nat.le_refl _); have hg4' : w4.heap[r2]? = _ := (by rw [← hr2]; exact hg4 : w4.heap[r2]? = some (.cells (reqA M T F nF cF none 0 0 true) 42 (0, 0))); have c2 : w4.cell? ⟨r2, 2, none⟩ = some (.slice F nF cF) := cell_of hg4' rfl; clear hgr4; clear hg3; clear hb3))
        have HI4 := Lib.hid (HI2.out.below hb24)
        have HO4 := Lib.hid (HOF.out.below hb24)
        have hfl : fs.length = nF := Fl.Fds.len (show Fl.Fds w4 F nF cF fs from HO4.out.rd)
        have HBD := Lib.hid (Rbody_any (show Fl.Fds w4 F nF cF fs from HO4.out.rd) ⟨HFS.out.1, fun f hf => (HFS.out.2 f hf).2.1⟩)
        have HG4 := Lib.hid hg4'
        have hn32 : nF ≤ 32 := by have := HFS.out.1; omega
        clear hfl hg4 hg4' hb24 c2
        refine HBD.out.mono ?_
        rintro e w5 ⟨hb5, hr⟩
        have HI5 := Lib.hid (HI4.out.below hb5)
        have HO5 := Lib.hid (HO4.out.below hb5)
        have HG5 := Lib.hid ((hb5.block _ (Array.getElem?_eq_some_iff.1 HG4.out).1).trans HG4.out)
        clear hb5 HI4 HO4 HG4 HBD HI2 HOF
        rcases hr with ⟨er, her, he, rfl⟩ | ⟨b, nb, he, hnb, rfl⟩
        · have hf2 := HF.out
          rw [emptyJ_bad he, after_bad her] at hf2
          have HF2 := Lib.hid hf2
          have HE := Lib.hid her
          have e2 : (er != 0) = true := by simpa using her
          obtain ⟨q1, q2, q3, q4, G1, G0, q7, q8, q9⟩ := told_stores HI5.out.g0 HI5.out.g1 HR.out (Nat.le_refl _) HI5.out.bel er
          clear her hf2 he
          go_wp2_with (first
            | (refine wpList_load_run rfl 37 _ rfl _ rfl _ (load_told G1) ?_)
            | (refine wpList_store_all rfl _ _ _ rfl w.heap.size rfl _ (toldW none 0 0 none 0 0 0 false) _ rfl G0 size_told rfl told_one ?_; intro wz hgz hgrz hzz; clear hzz))
          refine bodyPost_ret (results_cell_row rfl _ _ w.heap.size _ _ _ _ rfl hgz Tryz.underlying37 rfl (by kernel_rfl)) rfl ?_
          exact rinv_fin HI5.out (Nat.le_refl _) HR.out q7 q8 q9 hgrz HF2.out (by simp [overW, HE.out])
        · have hfk := HF.out
          rw [emptyJ_ok he] at hfk
          have HF2 := Lib.hid hfk
          clear hfk he HF
          have hok : Ok (if b then st0 else stN nb) ∧ (if b then st0 else stN nb).bd = 0 := by
            cases b
            · refine ⟨okN nb hnb, ?_⟩
              show (stN nb).bd = 0
              unfold stN
              split <;> rfl
            · exact ⟨ok0, rfl⟩
          have HAT := Lib.hid (after_told (M := M) (T := T) (fs := fs) (kp := !closesF fs) (l := s.drop q) hok.1 hok.2)
          have HGL := Lib.hid ((feedP_ok (s.drop q) _ hok.1).len)
          clear hok
          go_upto_region 13 with fail
          go_cut [10] from 11 to 100 (fun v wx => ∃ (r3 : Nat) (u er : Int) (D : Option Addr) (nD cD : Nat) (got : Bs), v = .pointer (some ⟨r3, 0, none⟩) ∧ Hid ((u, got, er) = toldP (feedP (stN nb) (s.drop q))) ∧ Hid (RMid s w r1 wx p L nL cL E nE cE zs l r2 r3 M T F nF cF fs u er D nD cD got))
          case first =>
            have HRD := Lib.hid (HH.out.drop_ (k := q) hqn)
            have hsl := run_slice_l_rd (P := Tryz.prog) (A := A) (n := n) (c := c) eb (kl := .i64) q (L := (q : Int)) rfl hqn
            have HSZ := Lib.hid (RSized_any (w := w5) _ _ _ _ (HRD.out.below HI5.out.bel) (by omega) nb hnb)
            have HGN := Lib.hid ((feedP_ok (s.drop q) _ (okN nb hnb)).len)
            go_wp2_with fail
            refine HSZ.out.mono ?_
            rintro e w6 ⟨nD, rfl, hrd, hb6⟩
            obtain ⟨u, hu⟩ : ∃ u, (toldP (feedP (stN nb) (s.drop q))).1 = u := ⟨_, rfl⟩
            obtain ⟨er, her⟩ : ∃ u, (toldP (feedP (stN nb) (s.drop q))).2.2 = u := ⟨_, rfl⟩
            rw [hu, her]
            have HI6 := Lib.hid (HI5.out.below hb6)
            have HO6 := Lib.hid (HO5.out.below hb6)
            have HG6 := Lib.hid ((hb6.block _ (Array.getElem?_eq_some_iff.1 HG5.out).1).trans HG5.out)
            have HU := Lib.hid (show (u, (toldP (feedP (stN nb) (s.drop q))).2.1, er) = toldP (feedP (stN nb) (s.drop q)) by rw [← hu, ← her])
            have HD6 := Lib.hid (hrd.below hb6)
            clear hu her hrd hb6 HSZ
            go_wp2_with (first
              | (refine wpList_alloc_zero rfl _ rfl (ctA 0 none 0 0 0) zero_ct ?_; intro w7 hg7 hb7 hz7; clear hz7)
              | (refine wpList_store_all rfl _ _ _ rfl w6.heap.size rfl _ _ (ctA u (cutA A c q 1) nD (c - q) er) rfl hg7 size_ct rfl ct_one ?_; intro w8 hg8 hgr8 hz8; clear hz8))
            have hb68 : Below w6.heap.size w6 w8 := hb7.grown hgr8 hb7.size (fun q hq => by obtain rfl := Option.some.inj hq; exact Nat.le_refl _)
            go_meet
            refine ⟨w6.heap.size, u, er, cutA A c q 1, nD, c - q, _, rfl, HU.out, ?_⟩
            exact rmid_mk HI6.out HG6.out HO6.out HD6.out (But.of_below hb68) (Array.getElem?_eq_some_iff.1 HG6.out).1 (fun k hk => by rw [blk_cutA] at hk; have h1 := HAB.out k hk; have := HI6.out.bel.size; omega) hg8 HLT.out HFB.out HAP.out (Nat.le_trans (told_len _) HGN.out) HR.out
          case rest =>
            obtain ⟨r3, u0, er0, D0, nD0, cD0, got0, rfl, hT0, hM0⟩ := hcut
            clear HI5 HO5 HG5
            go_upto_if 49 with fail
            go_cut [] from 11 to 100 (fun wx => ∃ (u er : Int) (D : Option Addr) (nD cD : Nat) (got : Bs), Hid ((u, got, er) = toldP (feedP (if b then st0 else stN nb) (s.drop q))) ∧ Hid (RMid s w r1 wx p L nL cL E nE cE zs l r2 r3 M T F nF cF fs u er D nD cD got))
            case first =>
              cases b
              · go_wp2_with fail
                go_meet
                exact ⟨u0, er0, D0, nD0, cD0, got0, hT0.out, hM0.out⟩
              · have HRD := Lib.hid (HH.out.drop_ (k := q) hqn)
                have hsl := run_slice_l_rd (P := Tryz.prog) (A := A) (n := n) (c := c) eb (kl := .i64) q (L := (q : Int)) rfl hqn
                have HC8 := Lib.hid (RChunked_any (w := wc) _ _ _ _ (HRD.out.below hM0.out.I.bel) (by omega))
                go_wp2_with fail
                refine HC8.out.mono ?_
                rintro e w9 ⟨D, nD, cD, rfl, hoD, hb9⟩
                obtain ⟨u, hu⟩ : ∃ u, (toldP (feedP st0 (s.drop q))).1 = u := ⟨_, rfl⟩
                obtain ⟨er, her⟩ : ∃ u, (toldP (feedP st0 (s.drop q))).2.2 = u := ⟨_, rfl⟩
                rw [hu, her]
                have HU := Lib.hid (show (u, (toldP (feedP st0 (s.drop q))).2.1, er) = toldP (feedP st0 (s.drop q)) by rw [← hu, ← her])
                have hlt3 := (Array.getElem?_eq_some_iff.1 hM0.out.g3).1
                have HI9 := Lib.hid (hM0.out.I.below hb9)
                have HO9 := Lib.hid (hM0.out.oF.below hb9)
                have HG9 := Lib.hid ((hb9.block _ (Array.getElem?_eq_some_iff.1 hM0.out.g2).1).trans hM0.out.g2)
                have HDB := Lib.hid (fun k hk => (hoD.lt k hk).1)
                have HD9 := Lib.hid hoD.rd
                have hg9 := (hb9.block _ hlt3).trans hM0.out.g3
                clear hu her hoD hb9 HC8
                go_wp2_with (refine wpList_store_all rfl _ _ _ rfl r3 rfl _ _ (ctA u D nD cD er) rfl hg9 size_ct rfl ct_one ?_; intro w10 hg10 hgr10 hz10; clear hz10)
                go_meet
                refine ⟨u, er, D, nD, cD, _, HU.out, ?_⟩
                exact rmid_mk HI9.out HG9.out HO9.out HD9.out (But.of_grown hgr10 (S := (· = r3)) (fun q e => (Option.some.inj e).symm)) hM0.out.lt.2 (fun k hk => by have := HDB.out k hk; omega) hg10 HLT.out HFB.out HAP.out (Nat.le_trans (told_len _) HGL.out) HR.out
            case rest =>
              obtain ⟨u, er, D, nD, cD, got, hT, hM⟩ := hcut
              clear hT0 hM0
              obtain ⟨R, hR⟩ : ∃ R, feedP (if b then st0 else stN nb) (s.drop q) = R := ⟨_, rfl⟩
              have hRl := feedP_le (s.drop q) (if b then st0 else stN nb)
              rw [hR] at hT HAT hRl
              have HRL := Lib.hid hRl
              have k30 : wc.cell? ⟨r3, 0, none⟩ = some (.int .i64 u) := cell_of hM.out.g3 rfl
              have k32 : wc.cell? ⟨r3, 2, none⟩ = some (.int .i64 er) := cell_of hM.out.g3 rfl
              clear HGL hR hRl
              by_cases hbd : R.2.bd = 0
              · by_cases h9 : R.2.nx = 9
                · have ht := (HAT.out.2.2 hbd h9).1
                  have hf3 := HF2.out.trans (HAT.out.2.2 hbd h9).2
                  rw [← hT.out] at ht
                  obtain ⟨rfl, ht2⟩ := Prod.mk.inj ht
                  obtain ⟨rfl, rfl⟩ := Prod.mk.inj ht2
                  have HF3 := Lib.hid hf3
                  have hRl : R.1 ≤ (s.drop q).length := HRL.out
                  rw [List.length_drop] at hRl
                  obtain ⟨K, hK⟩ : ∃ K, R.1 = K := ⟨_, rfl⟩
                  rw [hK] at HF3 hRl k30
                  have HKL := Lib.hid (show q + K ≤ n by have := HL.out; omega)
                  clear hf3 ht ht2 hbd h9 HAT hRl hT HF2
                  have hKn : decide ((K : Int) < 0) = false := decide_eq_false (by omega)
                  have HRC := Lib.hid (fun W (hb : Below wc.heap.size wc W) => Rcloses_any (show Fl.Fds W F nF cF fs from (hM.out.oF.below hb).rd) ⟨hn32, fun f hf => (HFS.out.2 f hf).2.1⟩)
                  go_upto_region 23 with fail
                  go_cut [] from 11 to 100 (fun wx => ∃ (D2 : Option Addr) (nD2 cD2 : Nat), Hid (RNow s w r1 wx p L nL cL E nE cE zs l r2 M T F nF cF fs D2 nD2 cD2 R.2.got (!closesF fs)) ∧ wx.cell? ⟨r3, 0, none⟩ = some (.int .i64 (K : Int)))
                  case first =>
                    have k31 : wc.cell? ⟨r3, 1, none⟩ = some (.slice D nD cD) := cell_of hM.out.g3 rfl
                    have k22 : wc.cell? ⟨r2, 2, none⟩ = some (.slice F nF cF) := cell_of hM.out.g2 rfl
                    have c31 : ∀ b : K2 wc ⟨r3, 1, none⟩ ⟨r2, 2, none⟩, b.at'.cell? ⟨r3, 1, none⟩ = some (.slice D nD cD) := fun b => b.s1.trans k31
                    have c22 : ∀ b : K2 wc ⟨r3, 1, none⟩ ⟨r2, 2, none⟩, b.at'.cell? ⟨r2, 2, none⟩ = some (.slice F nF cF) := fun b => b.s2.trans k22
                    refine wp_region_plan (MPlan.reads [1, 2, 4, 5] (.one 0 (.one 3 (.read 8 (.one 6 (.read 7 (.one 9 (.read 10 (.one 11 .fin))))))))) (fun x => ∃ b : K2 wc ⟨r3, 1, none⟩ ⟨r2, 2, none⟩, x = b.at') (by kernel_rfl) (by kernel_rfl) (by kernel_rfl) (fun _ _ _ _ _ h => h) ⟨⟨wc.drew, rfl, rfl⟩, rfl⟩ ?_
                    iterate 4 (refine plan_read (o := ⟨_, _, _, _, _, _⟩) (by rfl) (by rfl) ?_; go_big_quiet_step (fail); refine wpQuiet_nil ?_)
                    refine plan_one (o := ⟨_, _, _, _, _, _⟩) (by rfl) (fun KK hKK => ?_)
                    go_wp2_with fail
                    have hb6 : Below wc.heap.size wc ((wc.alloc (.cells #[] 5)).drew) := ((Below.refl _ _).alloc (Nat.le_refl _) _).drew
                    have hlt2 := (Array.getElem?_eq_some_iff.1 hM.out.g2).1
                    have hlt3 := (Array.getElem?_eq_some_iff.1 hM.out.g3).1
                    have hlt1 := (Array.getElem?_eq_some_iff.1 hM.out.I.g1).1
                    have ho6 : Own ((wc.alloc (.cells #[] 5)).drew) (r1 + 1) 5 1 (some ⟨wc.heap.size, 0, none⟩) 0 0 (([] : Bs).map b8) := (Own.lit wc (r1 + 1) [] 5 0 rfl (by unfold maxLen; omega) (by omega)).keep (fun _ _ _ _ => rfl)
                    refine hKK _ _ (k2_of hb6 hlt3 hlt2) ?_
                    clear hKK
                    generalize (wc.alloc (.cells #[] 5)).drew = w6 at hb6 ho6 ⊢
                    have hnD : nD ≤ 4096 := by have h1 := hM.out.rD.lenb; have h2 := hM.out.kL; omega
                    refine plan_one (o := ⟨_, _, _, _, _, _⟩) (by rfl) (fun KK hKK => ?_)
                    go_wp2_with (at_builtin; refine wpList_app rfl _ _ rfl eb ho6 rfl (hM.out.rD.below hb6) rfl (b8_one _) (by omega) (by unfold maxLen; omega) (by have := hb6.size; omega) ?_; intro A7 c7 w7 ho7 hg7 hq7; rw [← List.map_append, List.nil_append, Nat.zero_add] at ho7; simp only [Nat.zero_add])
                    have hb7 : Below wc.heap.size wc w7 := hb6.grown hg7 hb6.size (fun q hq => by
                      have e : q = wc.heap.size := by simpa [blk] using hq.symm
                      omega)
                    have hA7 : ∀ k, blk A7 = some k → wc.heap.size ≤ k := fun k hk => by
                      rcases hq7 with h1 | h1
                      · rw [hk] at h1
                        simp [blk] at h1
                        omega
                      · have := Option.some.inj (hk.symm.trans h1)
                        have := hb6.size
                        omega
                    refine hKK _ _ (k2_of hb7 hlt3 hlt2) ?_
                    clear hKK hg7 hq7 ho6
                    try simp only [Act.put, List.setIfInBounds_toArray, List.set_cons_succ, List.set_cons_zero]
                    refine plan_read (o := ⟨_, _, _, _, _, _⟩) (by rfl) (by rfl) ?_
                    go_big_quiet_step (fail)
                    refine wpQuiet_nil ?_
                    refine plan_one (o := ⟨_, _, _, _, _, _⟩) (by rfl) (fun KK hKK => ?_)
                    go_wp2_with fail
                    refine (HRC.out w7 hb7).mono ?_
                    rintro e w8 ⟨rfl, hb78⟩
                    have hb8 := hb7.trans (hb78.mono hb7.size)
                    have HO8 := Lib.hid (ho7.below hb78)
                    have HI8 := Lib.hid (hM.out.I.below hb8)
                    have HF8 := Lib.hid (hM.out.oF.below hb8)
                    have g82 : w8.heap[r2]? = _ := (hb8.block _ hlt2).trans hM.out.g2
                    go_wp2_with fail
                    refine hKK _ _ (k2_of hb8 hlt3 hlt2) ?_
                    clear hKK ho7 hb78
                    refine plan_read (o := ⟨_, _, _, _, _, _⟩) (by rfl) (by rfl) ?_
                    go_big_quiet_step (fail)
                    refine wpQuiet_nil ?_
                    have k23 : w8.cell? ⟨r2, 3, none⟩ = some (.slice none 0 0) := cell_of g82 rfl
                    have f23 : w8.frozen? ⟨r2, 3, none⟩ = false := frozen_of g82
                    have g92 : (w8.setCell ⟨r2, 3, none⟩ (.slice A7 nD c7)).heap[r2]? = some (.cells (reqA M T F nF cF A7 nD c7 true) 42 (0, 0)) := setc_same _ g82
                    have k24 : (w8.setCell ⟨r2, 3, none⟩ (.slice A7 nD c7)).cell? ⟨r2, 4, none⟩ = some (.bool true) := cell_of g92 rfl
                    have f24 : (w8.setCell ⟨r2, 3, none⟩ (.slice A7 nD c7)).frozen? ⟨r2, 4, none⟩ = false := frozen_of g92
                    have hne32 : r2 ≠ r3 := by have := hM.out.lt; omega
                    have e81 : w8.cell? ⟨r3, 1, none⟩ = wc.cell? ⟨r3, 1, none⟩ := World.cell?_of_block (hb8.block _ hlt3)
                    have e82 : w8.cell? ⟨r2, 2, none⟩ = wc.cell? ⟨r2, 2, none⟩ := World.cell?_of_block (hb8.block _ hlt2)
                    have e80 : w8.cell? ⟨r3, 0, none⟩ = wc.cell? ⟨r3, 0, none⟩ := World.cell?_of_block (hb8.block _ hlt3)
                    have HE8 := Lib.hid (And.intro e81 (And.intro e82 e80))
                    have HLT3 := Lib.hid (And.intro hlt1 (And.intro hlt2 hlt3))
                    clear e81 e82 e80
                    refine plan_one (o := ⟨_, _, _, _, _, _⟩) (by rfl) (fun KK hKK => ?_)
                    go_wp2_with fail
                    refine hKK _ _ ⟨⟨_, (World.cell?_of_block (setc_other hne32)).trans HE8.out.1, (far (by decide) _ _).trans HE8.out.2.1⟩, rfl⟩ ?_
                    clear hKK
                    refine plan_read (o := ⟨_, _, _, _, _, _⟩) (by rfl) (by rfl) ?_
                    go_big_quiet_step (fail)
                    refine wpQuiet_nil ?_
                    refine plan_one (o := ⟨_, _, _, _, _, _⟩) (by rfl) (fun KK hKK => ?_)
                    go_wp2_with fail
                    refine hKK _ _ ⟨⟨_, (World.cell?_of_block (setc_other hne32)).trans ((World.cell?_of_block (setc_other hne32)).trans HE8.out.1), (far (by decide) _ _).trans ((far (by decide) _ _).trans HE8.out.2.1)⟩, rfl⟩ ?_
                    clear hKK
                    refine plan_fin ?_
                    go_wp2_with fail
                    go_meet
                    refine ⟨A7, nD, c7, ?_, ((World.cell?_of_block (setc_other hne32)).trans ((World.cell?_of_block (setc_other hne32)).trans HE8.out.2.2)).trans k30⟩
                    exact rnow_mk HI8.out g82 HF8.out HO8.out hM.out.fB (fun k hk => by
                      have h1 := hA7 k hk
                      have h2 := hM.out.ap k
                      refine ⟨fun h3 => by have := h2 (.inl h3); omega, fun h3 => by have := h2 (.inr h3); omega, by omega, fun h3 => by have := (hM.out.oF.lt k h3).2; omega⟩) hM.out.lt.1 hM.out.ap HR.out
                  case rest =>
                    -- @last
                    obtain ⟨D2, nD2, cD2, hN, k30'⟩ := hcut
                    clear hM k30 k32 HRC
                    obtain ⟨kp, hkp⟩ : ∃ b, (!closesF fs) = b := ⟨_, rfl⟩
                    rw [hkp] at hN HF3
                    obtain ⟨got, hgot⟩ : ∃ g, R.2.got = g := ⟨_, rfl⟩
                    rw [hgot] at hN HF3
                    clear hgot hkp
                    have hqK : q + K ≤ n := HKL.out
                    go_upto_region 25 with fail
                    have g2 := hN.out.g2
                    have g1 := hN.out.I.g1
                    have hlt1 := (Array.getElem?_eq_some_iff.1 g1).1
                    have hlt2 := (Array.getElem?_eq_some_iff.1 g2).1
                    have hn1 : ¬ LEB L E r1 := fun h => h.elim (fun h1 => by have := (hN.out.I.rq.row.lt _ h1).1; omega) (fun h1 => by have := (hN.out.I.en.lt _ h1).1; omega)
                    have hn2 : ¬ LEB L E r2 := fun h => h.elim (fun h1 => by have := hN.out.ap r2 (.inl (List.mem_append_left _ (blk_mem h1))); omega) (fun h1 => by have := hN.out.ap r2 (.inr h1); omega)
                    have k10 : wc.cell? ⟨r1, 0, none⟩ = some (.slice L nL cL) := cell_of g1 rfl
                    have k11 : wc.cell? ⟨r1, 1, none⟩ = some (.slice E nE cE) := cell_of g1 rfl
                    have c10 : ∀ b : K3 wc ⟨r1, 0, none⟩ ⟨r1, 1, none⟩ r2, b.at'.cell? ⟨r1, 0, none⟩ = some (.slice L nL cL) := fun b => b.s1.trans k10
                    have c11 : ∀ b : K3 wc ⟨r1, 0, none⟩ ⟨r1, 1, none⟩ r2, b.at'.cell? ⟨r1, 1, none⟩ = some (.slice E nE cE) := fun b => b.s2.trans k11
                    have cld : ∀ b : K3 wc ⟨r1, 0, none⟩ ⟨r1, 1, none⟩ r2, (loadVar 42 ⟨r2, 0, none⟩).run Tryz.prog b.at' = .ok (.agg (reqA M T F nF cF D2 nD2 cD2 kp)) b.at' := fun b => load_reqs (b.s3.trans g2)
                    have HK3 := Lib.hid (fun w' (hb : But (LEB L E) wc w') => k3_of (i := 0) (j := 1) hb hlt1 hlt2 hn1 hn2)
                    have hnn := hN.out.I.nn
                    have hnb : nL ≤ 1048576 ∧ nE ≤ 1048576 := by have h1 := hN.out.I.pl; have h2 := HL.out; omega
                    have hbase : r1 + 1 ≤ wc.heap.size := by omega
                    have HLE := Lib.hid (show (∀ k, blk L = some k → blk E ≠ some k ∧ k < wc.heap.size ∧ r1 + 1 ≤ k) ∧ ∀ k, blk E = some k → k < wc.heap.size ∧ r1 + 1 ≤ k from ⟨fun k hk => ⟨fun e => hN.out.I.le k e (List.mem_append_left _ (blk_mem hk)), (hN.out.I.rq.row.lt k hk).2, (hN.out.I.rq.row.lt k hk).1⟩, fun k hk => ⟨(hN.out.I.en.lt k hk).2, (hN.out.I.en.lt k hk).1⟩⟩)
                    have HOL := Lib.hid hN.out.I.rq.row
                    have HOE := Lib.hid hN.out.I.en
                    have HZ : Hid (But (LEB L E) wc wc.drew) := (But.refl _ _).drew
                    clear g1 hn1 hn2 k10 k11 hnn hlt1 hlt2
                    go_cut [] from 11 to 100 (fun wx => ∃ (L' E' : Option Addr) (cL' cE' : Nat) (X : World), wx = (X.setCell ⟨r1, 0, none⟩ (.slice L' (nL + 1) cL')).setCell ⟨r1, 1, none⟩ (.slice E' (nE + 1) cE') ∧ Hid (But (LEB L E) wc X ∧ Own X (r1 + 1) 42 5 L' (nL + 1) cL' (rqL l ++ (RP.arr (⟨M, T, fs, got, kp⟩, ⟨F, nF, cF, D2, nD2, cD2⟩)).toList) ∧ (blk L' = blk L ∨ ∀ k, blk L' = some k → wc.heap.size ≤ k) ∧ Own X (r1 + 1) 3 1 E' (nE + 1) cE' (zs.map (Value.int .i64) ++ [.int .i64 ((q : Int) + (K : Int))]) ∧ (blk E' = blk E ∨ ∀ k, blk E' = some k → wc.heap.size ≤ k) ∧ ∀ k, blk L' = some k → blk E' ≠ some k))
                    case first =>
                      refine wp_region_tplan (TPlan.reads [0, 1, 2, 5, 6] (.free 7 (.two 3 8 (.two 4 8 (.read 10 (.one 8 (.one 9 (.tail 11 (.read 12 (.one 13 .fin)))))) (.one 4 (.read 10 (.one 9 (.tail 11 (.read 12 (.one 13 .fin))))))) (.one 3 (.one 4 (.read 10 (.one 9 (.tail 11 (.read 12 (.one 13 .fin)))))))))) (fun x => ∃ b : K3 wc ⟨r1, 0, none⟩ ⟨r1, 1, none⟩ r2, x = b.at') 11 (by kernel_rfl) (by kernel_rfl) (by kernel_rfl) (by kernel_rfl) (fun _ _ _ _ _ h => h) (HK3.out _ HZ.out) ?_
                      iterate 2 (refine tplan_read (o := ⟨_, _, _, _, _, _⟩) (by rfl) (by rfl) ?_; go_big_quiet_step (fail); refine wpQuiet_nil ?_)
                      refine tplan_load (o := ⟨_, _, _, _, _, _⟩) (by rfl) rfl (by rfl) _ rfl _ (fun w' hS => by obtain ⟨b, rfl⟩ := hS; exact cld b) ?_
                      simp only [Act.put, List.setIfInBounds_toArray, List.set_cons_succ, List.set_cons_zero]
                      iterate 2 (refine tplan_read (o := ⟨_, _, _, _, _, _⟩) (by rfl) (by rfl) ?_; go_big_quiet_step (fail); refine wpQuiet_nil ?_)
                      refine tplan_free (o := ⟨_, _, _, _, _, _⟩) (by rfl) (by rfl) (.int .i64 ((q : Int) + (K : Int))) (fun w' => by go_simp) ?_
                      simp only [Act.put, List.setIfInBounds_toArray, List.set_cons_succ, List.set_cons_zero]
                      clear c10 c11 cld
                      have HOEd : Hid (Own wc.drew (r1 + 1) 3 1 E nE cE (zs.map (Value.int .i64))) := HOE.out.keep (fun _ _ _ _ => rfl)
                      have HOLd : Hid (Own wc.drew (r1 + 1) 42 5 L nL cL (rqL l)) := HOL.out.keep (fun _ _ _ _ => rfl)
                      refine tplan_two (oi := ⟨_, _, _, _, _, _⟩) (oj := ⟨_, _, _, _, _, _⟩) (by rfl) (by rfl) (fun KK hKK => ?_) (fun KK hKK => ?_)
                      · go_wp2_with (refine wpList_litR1 (p := (⟨M, T, fs, got, kp⟩, ⟨F, nF, cF, D2, nD2, cD2⟩)) rfl rfl rfl ?_; intro w6 hw6; have hlR6 := litR1_rd hw6; have hb6 := litF1_below hw6; clear hw6)
                        have HZ6 := Lib.hid (HZ.out.trans (But.of_below hb6 : But (fun _ => False) _ _) (fun _ h => h.elim))
                        have HL6 := Lib.hid (HOLd.out.below hb6)
                        have HE6 := Lib.hid (HOEd.out.below hb6)
                        have hR6 := Lib.hid hlR6
                        have hRb6 : Hid (∀ k, blk (some (⟨wc.drew.heap.size, 0, none⟩ : Addr)) = some k → wc.heap.size ≤ k) := fun k hk => by
                          have e : wc.drew.heap.size = k := by simpa [blk] using hk
                          have := HZ.out.size
                          omega
                        clear hlR6 hb6
                        refine hKK _ _ (HK3.out _ HZ6.out) ?_
                        clear hKK
                        refine tplan_two (oi := ⟨_, _, _, _, _, _⟩) (oj := ⟨_, _, _, _, _, _⟩) (by rfl) (by rfl) (fun KK hKK => ?_) (fun KK hKK => ?_)
                        · go_wp2_with (at_builtin; refine wpList_app rfl _ _ rfl eq_ HL6.out rfl hR6.out rfl req_one (by omega) (by unfold maxLen; omega) (Nat.le_trans hbase HZ6.out.size) ?_; intro A7 c7 w7 ho7 hg7 hq7)
                          have HA7 : Hid (blk A7 = blk L ∨ ∀ k, blk A7 = some k → wc.heap.size ≤ k) := hq7.imp id (fun h k hk => by rw [hk] at h; have := Option.some.inj h; have := HZ6.out.size; omega)
                          have HZ7 := Lib.hid (HZ6.out.trans (But.of_grown hg7 (S := LEB L E) (fun q e => .inl e)) (fun _ h => .inl h))
                          have HL7 := Lib.hid ho7
                          have HE7 := Lib.hid (HE6.out.grown hg7 (fun k hk e => (HLE.out.1 k e).1 hk))
                          clear ho7 hg7 hq7
                          refine hKK _ _ (HK3.out _ HZ7.out) ?_
                          clear hKK
                          try simp only [Act.put, List.setIfInBounds_toArray, List.set_cons_succ, List.set_cons_zero]
                          refine tplan_read (o := ⟨_, _, _, _, _, _⟩) (by rfl) (by rfl) ?_; go_big_quiet_step (fail); refine wpQuiet_nil ?_
                          refine tplan_one (o := ⟨_, _, _, _, _, _⟩) (by rfl) (fun KK hKK => ?_)
                          go_wp2_with fail
                          obtain ⟨w8, hw8⟩ : ∃ W, w7.alloc (.cells #[.int .i64 ((q : Int) + (K : Int))] 3) = W := ⟨_, rfl⟩
                          have hb8 : Below w7.heap.size w7 w8 := by rw [← hw8]; exact (Below.refl _ _).alloc (Nat.le_refl _) _
                          have hlI8 : Rd w8 1 (some ⟨w7.heap.size, 0, none⟩) 1 1 [.int .i64 ((q : Int) + (K : Int))] := by rw [← hw8]; exact Rd.lit _ _ _ 1 rfl (by unfold maxLen; omega)
                          rw [hw8]
                          clear hw8
                          have HZ8 := Lib.hid (HZ7.out.trans (But.of_below hb8 : But (fun _ => False) _ _) (fun _ h => h.elim))
                          have HL8 := Lib.hid (HL7.out.below hb8)
                          have HE8 := Lib.hid (HE7.out.below hb8)
                          have hI8 := Lib.hid hlI8
                          have hIb8 : Hid (∀ k, blk (some (⟨w7.heap.size, 0, none⟩ : Addr)) = some k → wc.heap.size ≤ k) := fun k hk => by
                            have e : w7.heap.size = k := by simpa [blk] using hk
                            have := HZ7.out.size
                            omega
                          clear hlI8 hb8
                          refine hKK _ _ (HK3.out _ HZ8.out) ?_
                          clear hKK
                          refine tplan_one (o := ⟨_, _, _, _, _, _⟩) (by rfl) (fun KK hKK => ?_)
                          go_wp2_with (at_builtin; refine wpList_app rfl _ _ rfl eint HE8.out rfl hI8.out rfl (by intro u hu; obtain rfl := List.mem_singleton.1 hu; rfl) (by omega) (by unfold maxLen; omega) (Nat.le_trans hbase HZ8.out.size) ?_; intro B9 d9 w9 ho9 hg9 hq9)
                          have HB9 : Hid (blk B9 = blk E ∨ ∀ k, blk B9 = some k → wc.heap.size ≤ k) := hq9.imp id (fun h k hk => by rw [hk] at h; have := Option.some.inj h; have := HZ8.out.size; omega)
                          have HLB9 : Hid (∀ k, blk A7 = some k → blk B9 ≠ some k) := fun k hk e => by
                            rcases hq9 with h1 | h1
                            · have h2 := h1.symm.trans e
                              rcases HA7.out with h3 | h3
                              · exact (HLE.out.1 k (h3.symm.trans hk)).1 h2
                              · have h4 := h3 k hk
                                have h5 := (HLE.out.2 k h2).1
                                omega
                            · have h2 := Option.some.inj (h1.symm.trans e)
                              have h3 := (HL8.out.lt k hk).2
                              omega
                          have HZ9 := Lib.hid (HZ8.out.trans (But.of_grown hg9 (S := LEB L E) (fun q e => .inr e)) (fun _ h => .inl h))
                          have HL9 := Lib.hid (HL8.out.grown hg9 (fun k hk e => by
                            rcases HA7.out with h3 | h3
                            · exact (HLE.out.1 k (h3.symm.trans hk)).1 e
                            · have h4 := h3 k hk
                              have h5 := (HLE.out.2 k e).1
                              omega))
                          have HE9 := Lib.hid ho9
                          clear ho9 hg9 hq9
                          refine hKK _ _ (HK3.out _ HZ9.out) ?_
                          clear hKK
                          have HRw9 := Lib.hid (rnext hN.out HR.out HZ9.out HL9.out HA7.out HE9.out HB9.out HLB9.out)
                          obtain ⟨k10, f10, k11, f11, -⟩ := HRw9.out
                          try simp only [Act.put, List.setIfInBounds_toArray, List.set_cons_succ, List.set_cons_zero]
                          refine tplan_tail (o := ⟨_, _, _, _, _, _⟩) (by rfl) (fun KK hKK => ?_)
                          go_wp2_with fail
                          refine hKK _ _ ?_
                          clear hKK
                          refine plan_read (o := ⟨_, _, _, _, _, _⟩) (by rfl) (by rfl) ?_; go_big_quiet_step (fail); refine wpQuiet_nil ?_
                          refine plan_one (o := ⟨_, _, _, _, _, _⟩) (by rfl) (fun KK hKK => ?_)
                          go_wp2_with fail
                          refine hKK _ _ trivial ?_
                          clear hKK
                          refine plan_fin ?_
                          go_wp2_with fail
                          go_meet
                          exact ⟨A7, B9, c7, d9, w9, rfl, ⟨HZ9.out, HL9.out, HA7.out, HE9.out, HB9.out, HLB9.out⟩⟩
                        · go_wp2_with fail
                          obtain ⟨w10, hw10⟩ : ∃ W, w6.alloc (.cells #[.int .i64 ((q : Int) + (K : Int))] 3) = W := ⟨_, rfl⟩
                          have hb10 : Below w6.heap.size w6 w10 := by rw [← hw10]; exact (Below.refl _ _).alloc (Nat.le_refl _) _
                          have hlI10 : Rd w10 1 (some ⟨w6.heap.size, 0, none⟩) 1 1 [.int .i64 ((q : Int) + (K : Int))] := by rw [← hw10]; exact Rd.lit _ _ _ 1 rfl (by unfold maxLen; omega)
                          rw [hw10]
                          clear hw10
                          have HZ10 := Lib.hid (HZ6.out.trans (But.of_below hb10 : But (fun _ => False) _ _) (fun _ h => h.elim))
                          have HL10 := Lib.hid (HL6.out.below hb10)
                          have HE10 := Lib.hid (HE6.out.below hb10)
                          have HRr10 := Lib.hid (hR6.out.below hb10)
                          have hI10 := Lib.hid hlI10
                          have hIb10 : Hid (∀ k, blk (some (⟨w6.heap.size, 0, none⟩ : Addr)) = some k → wc.heap.size ≤ k) := fun k hk => by
                            have e : w6.heap.size = k := by simpa [blk] using hk
                            have := HZ6.out.size
                            omega
                          clear hlI10 hb10
                          refine hKK _ _ (HK3.out _ HZ10.out) ?_
                          clear hKK
                          refine tplan_one (o := ⟨_, _, _, _, _, _⟩) (by rfl) (fun KK hKK => ?_)
                          go_wp2_with (at_builtin; refine wpList_app rfl _ _ rfl eq_ HL10.out rfl HRr10.out rfl req_one (by omega) (by unfold maxLen; omega) (Nat.le_trans hbase HZ10.out.size) ?_; intro A11 c11 w11 ho11 hg11 hq11)
                          have HA11 : Hid (blk A11 = blk L ∨ ∀ k, blk A11 = some k → wc.heap.size ≤ k) := hq11.imp id (fun h k hk => by rw [hk] at h; have := Option.some.inj h; have := HZ10.out.size; omega)
                          have HZ11 := Lib.hid (HZ10.out.trans (But.of_grown hg11 (S := LEB L E) (fun q e => .inl e)) (fun _ h => .inl h))
                          have HL11 := Lib.hid ho11
                          have HE11 := Lib.hid (HE10.out.grown hg11 (fun k hk e => (HLE.out.1 k e).1 hk))
                          have HIr11 := Lib.hid (hI10.out.grown hg11 (fun k hk e => by have h1 := hIb10.out k hk; have h2 := (HLE.out.1 k e).2.1; omega))
                          clear ho11 hg11 hq11
                          refine hKK _ _ (HK3.out _ HZ11.out) ?_
                          clear hKK
                          try simp only [Act.put, List.setIfInBounds_toArray, List.set_cons_succ, List.set_cons_zero]
                          refine tplan_read (o := ⟨_, _, _, _, _, _⟩) (by rfl) (by rfl) ?_; go_big_quiet_step (fail); refine wpQuiet_nil ?_
                          refine tplan_one (o := ⟨_, _, _, _, _, _⟩) (by rfl) (fun KK hKK => ?_)
                          go_wp2_with (at_builtin; refine wpList_app rfl _ _ rfl eint HE11.out rfl HIr11.out rfl (by intro u hu; obtain rfl := List.mem_singleton.1 hu; rfl) (by omega) (by unfold maxLen; omega) (Nat.le_trans hbase HZ11.out.size) ?_; intro B12 d12 w12 ho12 hg12 hq12)
                          have HB12 : Hid (blk B12 = blk E ∨ ∀ k, blk B12 = some k → wc.heap.size ≤ k) := hq12.imp id (fun h k hk => by rw [hk] at h; have := Option.some.inj h; have := HZ11.out.size; omega)
                          have HLB12 : Hid (∀ k, blk A11 = some k → blk B12 ≠ some k) := fun k hk e => by
                            rcases hq12 with h1 | h1
                            · have h2 := h1.symm.trans e
                              rcases HA11.out with h3 | h3
                              · exact (HLE.out.1 k (h3.symm.trans hk)).1 h2
                              · have h4 := h3 k hk
                                have h5 := (HLE.out.2 k h2).1
                                omega
                            · have h2 := Option.some.inj (h1.symm.trans e)
                              have h3 := (HL11.out.lt k hk).2
                              omega
                          have HZ12 := Lib.hid (HZ11.out.trans (But.of_grown hg12 (S := LEB L E) (fun q e => .inr e)) (fun _ h => .inl h))
                          have HL12 := Lib.hid (HL11.out.grown hg12 (fun k hk e => by
                            rcases HA11.out with h3 | h3
                            · exact (HLE.out.1 k (h3.symm.trans hk)).1 e
                            · have h4 := h3 k hk
                              have h5 := (HLE.out.2 k e).1
                              omega))
                          have HE12 := Lib.hid ho12
                          clear ho12 hg12 hq12
                          refine hKK _ _ (HK3.out _ HZ12.out) ?_
                          clear hKK
                          have HRw12 := Lib.hid (rnext hN.out HR.out HZ12.out HL12.out HA11.out HE12.out HB12.out HLB12.out)
                          obtain ⟨k10, f10, k11, f11, -⟩ := HRw12.out
                          try simp only [Act.put, List.setIfInBounds_toArray, List.set_cons_succ, List.set_cons_zero]
                          refine tplan_tail (o := ⟨_, _, _, _, _, _⟩) (by rfl) (fun KK hKK => ?_)
                          go_wp2_with fail
                          refine hKK _ _ ?_
                          clear hKK
                          refine plan_read (o := ⟨_, _, _, _, _, _⟩) (by rfl) (by rfl) ?_; go_big_quiet_step (fail); refine wpQuiet_nil ?_
                          refine plan_one (o := ⟨_, _, _, _, _, _⟩) (by rfl) (fun KK hKK => ?_)
                          go_wp2_with fail
                          refine hKK _ _ trivial ?_
                          clear hKK
                          refine plan_fin ?_
                          go_wp2_with fail
                          go_meet
                          exact ⟨A11, B12, c11, d12, w12, rfl, ⟨HZ12.out, HL12.out, HA11.out, HE12.out, HB12.out, HLB12.out⟩⟩
                      · go_wp2_with fail
                        obtain ⟨w13, hw13⟩ : ∃ W, (wc.alloc (.cells #[.int .i64 ((q : Int) + (K : Int))] 3)).drew = W := ⟨_, rfl⟩
                        have hb13 : Below wc.drew.heap.size wc.drew w13 := by rw [← hw13]; exact ⟨rfl, rfl, rfl, by simp, fun q hq => by show (wc.alloc _).heap[q]? = _; exact Below.heap_alloc wc _ q hq⟩
                        have hlI13 : Rd w13 1 (some ⟨wc.heap.size, 0, none⟩) 1 1 [.int .i64 ((q : Int) + (K : Int))] := by rw [← hw13]; exact (Rd.lit wc [.int .i64 ((q : Int) + (K : Int))] 3 1 rfl (by unfold maxLen; omega)).keep (fun _ _ _ => rfl)
                        rw [hw13]
                        clear hw13
                        have HZ13 := Lib.hid (HZ.out.trans (But.of_below hb13 : But (fun _ => False) _ _) (fun _ h => h.elim))
                        have HL13 := Lib.hid (HOLd.out.below hb13)
                        have HE13 := Lib.hid (HOEd.out.below hb13)
                        have hI13 := Lib.hid hlI13
                        have hIb13 : Hid (∀ k, blk (some (⟨wc.drew.heap.size, 0, none⟩ : Addr)) = some k → wc.heap.size ≤ k) := fun k hk => by
                          have e : wc.drew.heap.size = k := by simpa [blk] using hk
                          have := HZ.out.size
                          omega
                        clear hlI13 hb13
                        refine hKK _ _ (HK3.out _ HZ13.out) ?_
                        clear hKK
                        refine tplan_one (o := ⟨_, _, _, _, _, _⟩) (by rfl) (fun KK hKK => ?_)
                        go_wp2_with (refine wpList_litR1 (p := (⟨M, T, fs, got, kp⟩, ⟨F, nF, cF, D2, nD2, cD2⟩)) rfl rfl rfl ?_; intro w14 hw14; have hlR14 := litR1_rd hw14; have hb14 := litF1_below hw14; clear hw14)
                        have HZ14 := Lib.hid (HZ13.out.trans (But.of_below hb14 : But (fun _ => False) _ _) (fun _ h => h.elim))
                        have HL14 := Lib.hid (HL13.out.below hb14)
                        have HE14 := Lib.hid (HE13.out.below hb14)
                        have HIr14 := Lib.hid (hI13.out.below hb14)
                        have hR14 := Lib.hid hlR14
                        have hRb14 : Hid (∀ k, blk (some (⟨w13.heap.size, 0, none⟩ : Addr)) = some k → wc.heap.size ≤ k) := fun k hk => by
                          have e : w13.heap.size = k := by simpa [blk] using hk
                          have := HZ13.out.size
                          omega
                        clear hlR14 hb14
                        refine hKK _ _ (HK3.out _ HZ14.out) ?_
                        clear hKK
                        refine tplan_one (o := ⟨_, _, _, _, _, _⟩) (by rfl) (fun KK hKK => ?_)
                        go_wp2_with (at_builtin; refine wpList_app rfl _ _ rfl eq_ HL14.out rfl hR14.out rfl req_one (by omega) (by unfold maxLen; omega) (Nat.le_trans hbase HZ14.out.size) ?_; intro A15 c15 w15 ho15 hg15 hq15)
                        have HA15 : Hid (blk A15 = blk L ∨ ∀ k, blk A15 = some k → wc.heap.size ≤ k) := hq15.imp id (fun h k hk => by rw [hk] at h; have := Option.some.inj h; have := HZ14.out.size; omega)
                        have HZ15 := Lib.hid (HZ14.out.trans (But.of_grown hg15 (S := LEB L E) (fun q e => .inl e)) (fun _ h => .inl h))
                        have HL15 := Lib.hid ho15
                        have HE15 := Lib.hid (HE14.out.grown hg15 (fun k hk e => (HLE.out.1 k e).1 hk))
                        have HIr15 := Lib.hid (HIr14.out.grown hg15 (fun k hk e => by have h1 := hIb13.out k hk; have h2 := (HLE.out.1 k e).2.1; omega))
                        clear ho15 hg15 hq15
                        refine hKK _ _ (HK3.out _ HZ15.out) ?_
                        clear hKK
                        try simp only [Act.put, List.setIfInBounds_toArray, List.set_cons_succ, List.set_cons_zero]
                        refine tplan_read (o := ⟨_, _, _, _, _, _⟩) (by rfl) (by rfl) ?_; go_big_quiet_step (fail); refine wpQuiet_nil ?_
                        refine tplan_one (o := ⟨_, _, _, _, _, _⟩) (by rfl) (fun KK hKK => ?_)
                        go_wp2_with (at_builtin; refine wpList_app rfl _ _ rfl eint HE15.out rfl HIr15.out rfl (by intro u hu; obtain rfl := List.mem_singleton.1 hu; rfl) (by omega) (by unfold maxLen; omega) (Nat.le_trans hbase HZ15.out.size) ?_; intro B16 d16 w16 ho16 hg16 hq16)
                        have HB16 : Hid (blk B16 = blk E ∨ ∀ k, blk B16 = some k → wc.heap.size ≤ k) := hq16.imp id (fun h k hk => by rw [hk] at h; have := Option.some.inj h; have := HZ15.out.size; omega)
                        have HLB16 : Hid (∀ k, blk A15 = some k → blk B16 ≠ some k) := fun k hk e => by
                          rcases hq16 with h1 | h1
                          · have h2 := h1.symm.trans e
                            rcases HA15.out with h3 | h3
                            · exact (HLE.out.1 k (h3.symm.trans hk)).1 h2
                            · have h4 := h3 k hk
                              have h5 := (HLE.out.2 k h2).1
                              omega
                          · have h2 := Option.some.inj (h1.symm.trans e)
                            have h3 := (HL15.out.lt k hk).2
                            omega
                        have HZ16 := Lib.hid (HZ15.out.trans (But.of_grown hg16 (S := LEB L E) (fun q e => .inr e)) (fun _ h => .inl h))
                        have HL16 := Lib.hid (HL15.out.grown hg16 (fun k hk e => by
                          rcases HA15.out with h3 | h3
                          · exact (HLE.out.1 k (h3.symm.trans hk)).1 e
                          · have h4 := h3 k hk
                            have h5 := (HLE.out.2 k e).1
                            omega))
                        have HE16 := Lib.hid ho16
                        clear ho16 hg16 hq16
                        refine hKK _ _ (HK3.out _ HZ16.out) ?_
                        clear hKK
                        have HRw16 := Lib.hid (rnext hN.out HR.out HZ16.out HL16.out HA15.out HE16.out HB16.out HLB16.out)
                        obtain ⟨k10, f10, k11, f11, -⟩ := HRw16.out
                        try simp only [Act.put, List.setIfInBounds_toArray, List.set_cons_succ, List.set_cons_zero]
                        refine tplan_tail (o := ⟨_, _, _, _, _, _⟩) (by rfl) (fun KK hKK => ?_)
                        go_wp2_with fail
                        refine hKK _ _ ?_
                        clear hKK
                        refine plan_read (o := ⟨_, _, _, _, _, _⟩) (by rfl) (by rfl) ?_; go_big_quiet_step (fail); refine wpQuiet_nil ?_
                        refine plan_one (o := ⟨_, _, _, _, _, _⟩) (by rfl) (fun KK hKK => ?_)
                        go_wp2_with fail
                        refine hKK _ _ trivial ?_
                        clear hKK
                        refine plan_fin ?_
                        go_wp2_with fail
                        go_meet
                        exact ⟨A15, B16, c15, d16, w16, rfl, ⟨HZ16.out, HL16.out, HA15.out, HE16.out, HB16.out, HLB16.out⟩⟩
                    case rest =>
                      obtain ⟨L', E', cL', cE', X, rfl, hX⟩ := hcut
                      have HRN := Lib.hid (rnext hN.out HR.out hX.out.1 hX.out.2.1 hX.out.2.2.1 hX.out.2.2.2.1 hX.out.2.2.2.2.1 hX.out.2.2.2.2.2)
                      clear hX HK3 HZ HOL HOE HLE c10 c11 cld g2
                      generalize (X.setCell ⟨r1, 0, none⟩ (.slice L' (nL + 1) cL')).setCell ⟨r1, 1, none⟩ (.slice E' (nE + 1) cE') = wy at HRN ⊢
                      obtain ⟨-, -, -, -, G0, G1, hrq, hen, hle, hbel, G2, -⟩ := HRN.out
                      have k24 : wy.cell? ⟨r2, 4, none⟩ = some (.bool kp) := cell_of G2 rfl
                      have hde : (s.drop q).drop K = s.drop (q + K) := by rw [List.drop_drop]
                      have hI5 := hN.out.I.eq
                      have HF4 := HF3.out
                      rw [hde] at HF4
                      rw [HF4] at hI5
                      have HE5 := Lib.hid hI5
                      have HRQ := Lib.hid hrq
                      have HEN := Lib.hid hen
                      have HLE := Lib.hid hle
                      have HBEL := Lib.hid hbel
                      have HPL := Lib.hid (show nE + 1 = nL + 1 ∧ nL + 1 ≤ q + K ∧ q + K ≤ s.length by have h1 := hN.out.I.nn; have h2 := HPQ.out; have h3 := HL.out; omega)
                      have HPQ2 := Lib.hid (show p < q + K by have := HPQ.out; omega)
                      clear hde hI5 HF4 hrq hen hle hbel G2 HRN HF3
                      cases kp
                      · have G1t : (wy.setCell ⟨r1, 4, none⟩ (.bool true)).heap[r1]? = some (.cells (toldW L' (nL + 1) cL' E' (nE + 1) cE' 0 true) 37 (0, 0)) := setc_same _ G1
                        have hr10 : r1 ≠ w.heap.size := by have := HR.out; omega
                        have G0t : (wy.setCell ⟨r1, 4, none⟩ (.bool true)).heap[w.heap.size]? = some (.cells (toldW none 0 0 none 0 0 0 false) 37 (0, 0)) := (setc_other hr10).trans G0
                        have k14 : wy.cell? ⟨r1, 4, none⟩ = some (.bool false) := cell_of G1 rfl
                        have f14 : wy.frozen? ⟨r1, 4, none⟩ = false := frozen_of G1
                        have HG1 := Lib.hid G1t
                        have HG0 := Lib.hid G0t
                        have HRQ2 := Lib.hid (HRQ.out.keep (w' := wy.setCell ⟨r1, 4, none⟩ (.bool true)) (fun k hk => setc_other (by have := (HRQ.out.in_ k hk).1; omega)))
                        have HB2 : Hid (Below w.heap.size w (wy.setCell ⟨r1, 4, none⟩ (.bool true))) := HBEL.out.setCell (by show w.heap.size ≤ r1; have := HR.out; omega) _
                        clear G1t G0t G1 G0 hr10
                        go_upto_region 28 with fail
                        clear k14 f14
                        generalize wy.setCell ⟨r1, 4, none⟩ (.bool true) = wt at HG1 HG0 HRQ2 HB2 ⊢
                        have G1 := HG1.out
                        have G0 := HG0.out
                        go_wp2_with (first
                          | (refine wpList_load_run rfl 37 _ rfl _ rfl _ (load_told G1) ?_)
                          | (refine wpList_store_all rfl _ _ _ rfl w.heap.size rfl _ (toldW none 0 0 none 0 0 0 false) _ rfl G0 size_told rfl told_one ?_; intro wz hgz hgrz hzz; clear hzz))
                        refine bodyPost_ret (results_cell_row rfl _ _ w.heap.size _ _ _ _ rfl hgz Tryz.underlying37 rfl (by kernel_rfl)) rfl ?_
                        have he := HE5.out
                        rw [show (if (false : Bool) = true then 1 else 4) = (4 : Nat) from rfl, feed_done (w := ⟨4, [], [], [], [], false, none⟩) rfl] at he
                        exact read_last HRQ2.out (Nat.le_refl _) HR.out HB2.out hgrz (y := ⟨4, [], [], [], [], false, none⟩) (he.trans (by simp)) (by simp [overW])
                      · go_wp2_with fail
                        go_roundw
                        case rel =>
                          refine ⟨q + K, L', nL + 1, cL', E', nE + 1, cE', zs ++ [(q : Int) + (K : Int)], l ++ [_], by go_num, hqK, ⟨G0, G1, HRQ.out, HEN.out, HLE.out, ?_, HBEL.out, ⟨HPL.out.1, HPL.out.2.1⟩, HPL.out.2.2⟩⟩
                          rw [HE5.out]
                          simp [newW]
                        case measure => simp [intOf]; have := HPQ2.out; omega
                    -- @lastend
                · obtain ⟨t1, t2, y, hy, hf3⟩ := HAT.out.2.1 hbd h9
                  rw [← hT.out] at t1 t2
                  dsimp only at t1 t2
                  subst t1 t2
                  have HF3 := Lib.hid (HF2.out.trans hf3)
                  have HY := Lib.hid hy
                  have g0 := hM.out.I.g0
                  have g1 := hM.out.I.g1
                  clear hf3 hy hbd h9 HAT
                  go_wp2_with (first
                    | (refine wpList_load_run rfl 37 _ rfl _ rfl _ (load_told g1) ?_)
                    | (refine wpList_store_all rfl _ _ _ rfl w.heap.size rfl _ (toldW none 0 0 none 0 0 0 false) _ rfl g0 size_told rfl told_one ?_; intro wz hgz hgrz hzz; clear hzz))
                  refine bodyPost_ret (results_cell_row rfl _ _ w.heap.size _ _ _ _ rfl hgz Tryz.underlying37 rfl (by kernel_rfl)) rfl ?_
                  exact rinv_end hM.out.I (Nat.le_refl _) HR.out hgrz HF3.out (by rw [HY.out]; decide)
              · obtain ⟨t1, hf3⟩ := HAT.out.1 hbd
                rw [← hT.out] at t1
                obtain ⟨rfl, t2⟩ := Prod.mk.inj t1
                obtain ⟨-, t3⟩ := Prod.mk.inj t2
                rw [← t3] at hf3 hbd
                have HF3 := Lib.hid (HF2.out.trans hf3)
                have HE := Lib.hid (errF_ne hbd)
                have e1 : (er != 0) = true := by simpa using hbd
                have HTS := Lib.hid (told_stores hM.out.I.g0 hM.out.I.g1 HR.out (Nat.le_refl _) hM.out.I.bel er)
                obtain ⟨q1, q2, q3, q4, -⟩ := HTS.out
                have hne31 : r3 ≠ r1 := by have := hM.out.lt; omega
                have K32 := Lib.hid ((World.cell?_of_block (HTS.out.2.2.2.2.2.2.1 r3 hne31)).trans k32)
                have HBD3 := Lib.hid hbd
                clear hf3 t1 t2 t3 HAT hne31 hbd k30
                go_upto_region 18 with fail
                clear q1 q2 q3 q4 k32
                generalize (wc.setCell ⟨r1, 2, none⟩ (.int .i64 er)).setCell ⟨r1, 4, none⟩ (.bool true) = W2 at HTS K32 ⊢
                obtain ⟨-, -, -, -, G1, G0, q7, q8, q9⟩ := HTS.out
                have k32 := K32.out
                have Q7 := Lib.hid (And.intro q7 (And.intro q8 q9))
                clear q7 q8 q9 HTS K32
                by_cases h2 : er = 2
                · subst h2
                  have hee : errF 2 = 9 := rfl
                  rw [hee] at HF3
                  have G9 : (W2.setCell ⟨r1, 2, none⟩ (.int .i64 9)).heap[r1]? = some (.cells (toldW L nL cL E nE cE 9 true) 37 (0, 0)) := setc_same _ G1
                  have hr10 : r1 ≠ w.heap.size := by have := HR.out; omega
                  have G09 : (W2.setCell ⟨r1, 2, none⟩ (.int .i64 9)).heap[w.heap.size]? = some (.cells (toldW none 0 0 none 0 0 0 false) 37 (0, 0)) := (setc_other hr10).trans G0
                  have q11 : W2.cell? ⟨r1, 2, none⟩ = some (.int .i64 2) := cell_of G1 rfl
                  have q12 : W2.frozen? ⟨r1, 2, none⟩ = false := frozen_of G1
                  have Q13 := Lib.hid (show (∀ k, k ≠ r1 → (W2.setCell ⟨r1, 2, none⟩ (.int .i64 9)).heap[k]? = wc.heap[k]?) ∧ Below w.heap.size w (W2.setCell ⟨r1, 2, none⟩ (.int .i64 9)) ∧ (W2.setCell ⟨r1, 2, none⟩ (.int .i64 9)).heap.size = wc.heap.size from ⟨fun k hk => (setc_other hk.symm).trans (Q7.out.1 k hk), Q7.out.2.1.setCell (by show w.heap.size ≤ r1; have := HR.out; omega) _, by simpa using Q7.out.2.2⟩)
                  have HG9 := Lib.hid G9
                  have HG09 := Lib.hid G09
                  clear hee e1 hr10 G9 G09 G1 G0
                  go_upto_region 20 with fail
                  clear q11 q12 k32
                  generalize W2.setCell ⟨r1, 2, none⟩ (.int .i64 9) = W3 at HG9 HG09 Q13 ⊢
                  have G9 := HG9.out
                  have G09 := HG09.out
                  go_wp2_with (first
                    | (refine wpList_load_run rfl 37 _ rfl _ rfl _ (load_told G9) ?_)
                    | (refine wpList_store_all rfl _ _ _ rfl w.heap.size rfl _ (toldW none 0 0 none 0 0 0 false) _ rfl G09 size_told rfl told_one ?_; intro wz hgz hgrz hzz; clear hzz))
                  refine bodyPost_ret (results_cell_row rfl _ _ w.heap.size _ _ _ _ rfl hgz Tryz.underlying37 rfl (by kernel_rfl)) rfl ?_
                  exact rinv_fin hM.out.I (Nat.le_refl _) HR.out Q13.out.1 Q13.out.2.1 Q13.out.2.2 hgrz HF3.out (by simp [overW])
                · have e2 : (er == 2) = false := by simpa using h2
                  have hee : errF er = er := if_neg h2
                  rw [hee] at HF3 HE
                  have HG1 := Lib.hid G1
                  have HG0 := Lib.hid G0
                  clear hee h2 G1 G0 e1
                  go_upto_region 20 with fail
                  have G1 := HG1.out
                  have G0 := HG0.out
                  go_wp2_with (first
                    | (refine wpList_load_run rfl 37 _ rfl _ rfl _ (load_told G1) ?_)
                    | (refine wpList_store_all rfl _ _ _ rfl w.heap.size rfl _ (toldW none 0 0 none 0 0 0 false) _ rfl G0 size_told rfl told_one ?_; intro wz hgz hgrz hzz; clear hzz))
                  refine bodyPost_ret (results_cell_row rfl _ _ w.heap.size _ _ _ _ rfl hgz Tryz.underlying37 rfl (by kernel_rfl)) rfl ?_
                  exact rinv_fin hM.out.I (Nat.le_refl _) HR.out Q7.out.1 Q7.out.2.1 Q7.out.2.2 hgrz HF3.out (by simp [overW, HE.out])
    · obtain rfl : p = n := by omega
      have g0 := hI.out.g0
      have g1 := hI.out.g1
      have hd : s.drop p = [] := List.drop_eq_nil_of_le (by rw [HL.out]; exact Nat.le_refl _)
      have HD := Lib.hid hd
      clear hlt hd
      go_wp2_with (first
        | (refine wpList_load_run rfl 37 _ rfl _ rfl _ (load_told g1) ?_)
        | (refine wpList_store_all rfl _ _ _ rfl w.heap.size rfl _ (toldW none 0 0 none 0 0 0 false) _ rfl g0 size_told rfl told_one ?_; intro wz hgz hgrz hzz; clear hzz))
      refine bodyPost_ret (results_cell_row rfl _ _ w.heap.size _ _ _ _ rfl hgz Tryz.underlying37 rfl (by kernel_rfl)) rfl ?_
      exact rinv_end hI.out (Nat.le_refl _) HR.out hgrz (y := newW) (by rw [HD.out]; rfl) (by show (1 : Nat) ≠ 4; decide)

end Go.Proofs.YtckkmdigmecagaaGreatDoor
