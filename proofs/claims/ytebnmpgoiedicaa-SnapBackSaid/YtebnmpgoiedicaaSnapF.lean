/-
  Take.
-/
import Derived.Test.YtebnmpgoiedicaaSnapE
namespace Go.Proofs.Ytebnmpgoiedicaa
open Go.RowKit

theorem results_cell_tmp {P : Program} {fn : Func} {p q : Tmp} {ty : TypeId} (h : fn.results = #[.cell p ty, .tmp q]) (tmps : Array Value) (w : World) (g : Nat) (t : TypeId) (cs : Array Value) (fr : Nat × Nat) (d : TypeDesc)
    (hp : tmps.getD p undef = .pointer (some ⟨g, 0, none⟩)) (hg : w.heap[g]? = some (.cells cs t fr))
    (hu : P.underlying ty = some d) (hd : (match d with | .struct _ | .array _ _ => true | _ => false) = true) (hi : (P.info? ty).map (·.size) = some cs.size) (v : Value) (hv : tmps.getD q undef = v) :
    (results fn tmps).run P w = .ok (.tuple #[.agg cs, v]) w := by
  have hp' : tmps[p]?.getD undef = .pointer (some ⟨g, 0, none⟩) := by simpa using hp
  have hv' : tmps[q]?.getD undef = v := by simpa using hv
  simp [results, h, hp', hv', asAddr, run_loadVar_row w g t ty cs fr d hg hu hd hi]

theorem drew_size (w : World) : w.drew.heap.size = w.heap.size := rfl

set_option maxRecDepth 20000 in
set_option maxHeartbeats 40000000 in
theorem Take_any (A : Option Addr) (n c : Nat) (l : List UInt8) (w : World) (h : Rd w 1 A n c (l.map b8)) (hn : n ≤ 1048576) :
    Calls Try.prog 13 #[.slice A n c] w fun e w' => e = .returned (.tuple #[.agg (takeM l).1, .int .i64 (takeM l).2]) ∧ Below w.heap.size w w' := by
  have hln := h.lenb
  have hnc := h.le
  by_cases h34 : (n : Int) < 34
  · have HT := Lib.hid (take_no (l := l) (fun ⟨h, _⟩ => by omega))
    go_enter Try.func13, Try.ntmps13
    go_wp2_with (first
      | (refine wpList_alloc_zero rfl _ rfl mZ zero_man ?_; intro w0 hg0 hb0 hz0)
      | (refine wpList_build_run rfl _ _ rfl #[] rfl _ (build_none _) ?_)
      | (refine wpList_store_all rfl _ _ _ rfl w.heap.size rfl _ _ _ rfl hg0 size_z rfl mZ_one ?_; intro w1 hg1 hgr1 hz1))
    refine bodyPost_ret (results_cell_tmp rfl _ _ w.heap.size _ _ _ _ rfl hg1 Try.underlying25 rfl size_z _ rfl) rfl ?_
    rw [HT.out]
    exact ⟨rfl, hb0.grown hgr1 hb0.size (fun g hg => by injection hg with hg; omega)⟩
  have h34' : 34 ≤ n := by omega
  have hsl2 := run_slice_h_rd (P := Try.prog) (A := A) (n := n) (c := c) eb (kh := .i64) 2 (H := 2) rfl (by omega)
  obtain ⟨X, hX⟩ : ∃ X, l.take 2 = X := ⟨_, rfl⟩
  have hs2 : ∀ w0 : World, Below w.heap.size w w0 → (convert 27 9 (.slice A 2 c)).run Try.prog w0 = .ok (.string ⟨X.toArray⟩) w0 := fun w0 hb => by
    have := str_rd ((h.below hb).take_ (k := 2) (by omega))
    rwa [hX] at this
  have HX := Lib.hid hX
  have HS2 := Lib.hid hs2
  clear hX hs2
  by_cases hXe : X = [83, 49]
  · subst hXe
    have h34'' : decide ((n : Int) < 34) = false := by simpa using h34
    clear h34
    by_cases h42 : n < 42
    · have HT := Lib.hid (take_no (l := l) (fun ⟨h, _⟩ => by omega))
      have HA := Lib.hid (at_short (l := l) (by omega))
      go_enter Try.func13, Try.ntmps13
      go_wp2_with (first
        | (refine wpList_alloc_zero rfl _ rfl mZ zero_man ?_; intro w0 hg0 hb0 hz0; have hs2 := HS2.out _ hb0)
        | (go_at_call 20; refine (At_any A n c l 34 8 _ (h.below hb0) (by omega) (by omega)).mono ?_; rintro e w2 ⟨rfl, rfl⟩; rw [HA.out])
        | (refine wpList_build_run rfl _ _ rfl #[] rfl _ (build_none _) ?_)
        | (refine wpList_store_all rfl _ _ _ rfl w.heap.size rfl _ _ _ rfl hg0 size_z rfl mZ_one ?_; intro w1 hg1 hgr1 hz1))
      refine bodyPost_ret (results_cell_tmp rfl _ _ w.heap.size _ _ _ _ rfl hg1 Try.underlying25 rfl size_z _ rfl) rfl ?_
      rw [HT.out]
      exact ⟨rfl, hb0.grown hgr1 hb0.size (fun g hg => by injection hg with hg; omega)⟩
    have HA := Lib.hid (at_long (l := l) (by omega))
    obtain ⟨T, hT⟩ : ∃ T, tT l = T := ⟨_, rfl⟩
    have hT64 := tT_lt l
    rw [hT] at HA hT64
    have hT64' : (T : Int) ≤ 18446744073709551615 := by omega
    have HTT := Lib.hid hT
    clear hT hT64
    by_cases hmax : (9223372036854775807 : Int) < T
    · have HT := Lib.hid (take_no (l := l) (fun ⟨_, _, h, _⟩ => by have := HTT.out; omega))
      have hmax' : decide ((9223372036854775807 : Int) < T) = true := by simpa using hmax
      clear hmax
      go_enter Try.func13, Try.ntmps13
      go_wp2_with (first
        | (refine wpList_alloc_zero rfl _ rfl mZ zero_man ?_; intro w0 hg0 hb0 hz0; have hs2 := HS2.out _ hb0)
        | (go_at_call 20; refine (At_any A n c l 34 8 _ (h.below hb0) (by omega) (by omega)).mono ?_; rintro e w2 ⟨rfl, rfl⟩; rw [HA.out])
        | (refine wpList_build_run rfl _ _ rfl #[] rfl _ (build_none _) ?_)
        | (refine wpList_store_all rfl _ _ _ rfl w.heap.size rfl _ _ _ rfl hg0 size_z rfl mZ_one ?_; intro w1 hg1 hgr1 hz1))
      refine bodyPost_ret (results_cell_tmp rfl _ _ w.heap.size _ _ _ _ rfl hg1 Try.underlying25 rfl size_z _ rfl) rfl ?_
      rw [HT.out]
      exact ⟨rfl, hb0.grown hgr1 hb0.size (fun g hg => by injection hg with hg; omega)⟩
    have hmax' : (T : Int) ≤ 9223372036854775807 := by omega
    clear hmax
    have h42' : 42 ≤ n := by omega
    have hsl42 := run_slice_l_rd (P := Try.prog) (A := A) (n := n) (c := c) eb (kl := .i64) 42 (L := 42) rfl (by omega)
    obtain ⟨L, k, e, hR⟩ : ∃ L k e, ttR (l.drop 42) = (L, k, e) := ⟨_, _, _, rfl⟩
    have hkL := tt_le (l.drop 42)
    rw [hR, List.length_drop] at hkL
    dsimp only at hkL
    obtain ⟨hk1, hL1⟩ := hkL
    have hk2 : (k : Int) ≤ 1048576 := by omega
    have HR := Lib.hid hR
    clear hR h42
    have hfin : ∀ (w1 w3 w4 : World), Below w.heap.size w w1 → w1.grownBy w3 (some w.heap.size) → Below w.heap.size w w3 := fun w1 w3 _ hb hg => hb.grown hg hb.size (fun g hg => by injection hg with hg; omega)
    have HFin := Lib.hid hfin
    clear hfin
    by_cases he : e = 0
    · subst he
      by_cases hk : 42 + k = n
      · have hk' : ((42 : Int) + k != n) = false := by
          simp
          omega
        have HM := Lib.hid (fun hm => tt_back (l := l) HX.out (by rw [HTT.out]; omega) HR.out (by omega) hm)
        rw [HTT.out] at HM
        have hRT := RT_length (show 34 ≤ l.length by omega)
        cases A with
        | none =>
          have := h.nil rfl
          omega
        | some ad =>
        have hsl234 := run_slice_lh_rd (P := Try.prog) (A := some ad) (n := n) (c := c) eb (kl := .i64) (kh := .i64) 2 34 (L := 2) (H := 34) rfl rfl (by omega) (by omega)
        have ecut : cutA (some ad) c 2 1 = some (ad.add 2) := by
          unfold cutA
          rw [if_neg (by omega)]
          rfl
        rw [ecut] at hsl234
        have hsl234' : ∀ W, (Instr.sliceAt 27 (.slice (some ad) n c) (some (.int .i64 2)) (some (.int .i64 34)) none).run Try.prog W = .ok (.slice (some (ad.add 2)) 32 (c - 2)) W := hsl234
        clear hsl234
        have harr := run_arr (ad.add 2) (c - 2)
        have hrt : Rd w 1 (some (ad.add 2)) 32 (c - 2) ((RT l).map b8) := by
          have := h.cut (lo := 2) (hi := 34) (by omega) (by omega)
          rw [ecut, ← List.map_drop, ← List.map_take] at this
          exact this
        have HRT := Lib.hid hrt
        clear hrt ecut hk
        go_enter Try.func13, Try.ntmps13
        go_wp2_with (first
          | (refine wpList_alloc_zero rfl _ rfl mZ zero_man ?_; intro w0 hg0 hb0 hz0; have hs2 := HS2.out _ hb0)
          | (go_at_call 20; refine (At_any (some ad) n c l 34 8 _ (h.below hb0) (by omega) (by omega)).mono ?_; rintro e w2 ⟨rfl, rfl⟩; rw [HA.out])
          | (go_at_call 21; refine (TakeText_any _ (n - 42) (c - 42) (l.drop 42) _ ((h.below hb0).drop_ (k := 42) h42') (by omega)).mono ?_; rintro e w3 ⟨A3, n3, c3, rfl, ho3, hbl3⟩; rw [HR.out] at ho3 ⊢; have hg3 := (hbl3.block w.heap.size (by omega)).trans hg0; have hb3 := hb0.trans (hbl3.mono hb0.size)))
        have hs3 := fun b : Later w3 => str_rd (ho3.below b.below).rd
        have hl3 := fun b : Later w3 => run_loadVar_arr (P := Try.prog) (ty := 23) Try.underlying23 (by kernel_rfl) (HRT.out.below (hb3.trans (b.below.mono hb3.size)))
        refine wp_region_mixb (List.range 12) (by kernel_rfl) (by kernel_rfl) (by rfl) (by kernel_rfl) (fun _ _ _ _ _ h => h) ?_
        iterate 3 (refine mix_read (o := ⟨_, _, _, _, _, _⟩) (by rfl) (by rfl) ?_; go_big_quiet_step (fail); refine wpQuiet_nil ?_)
        refine mix_arr (o := ⟨_, _, _, _, _, _⟩) (by rfl) rfl (by rfl) _ rfl _ (fun w' _ => harr w') ?_
        refine mix_load (o := ⟨_, _, _, _, _, _⟩) (by rfl) rfl (by rfl) _ rfl _ (fun w' hS => by obtain ⟨b, rfl⟩ := hS; exact hl3 b) ?_
        simp only [Act.put, List.setIfInBounds_toArray, List.set_cons_succ, List.set_cons_zero]
        iterate 4 (refine mix_read (o := ⟨_, _, _, _, _, _⟩) (by rfl) (by rfl) ?_; go_big_quiet_step (fail); refine wpQuiet_nil ?_)
        refine mix_build (o := ⟨_, _, _, _, _, _⟩) (by rfl) rfl (by rfl) #[(0, .agg ((RT l).map b8).toArray), (1, .int .i64 (T : Int)), (2, .string ⟨L.toArray⟩)] (by rw [List.map_toArray]; rfl) _ (fun w' _ => build_man hRT T ⟨L.toArray⟩ w') ?_
        simp only [Act.put, List.setIfInBounds_toArray, List.set_cons_succ, List.set_cons_zero]
        refine mixb_call_as (o := ⟨_, _, _, _, _, _⟩) (by rfl) (by rfl) (by rfl) (fun K hK => ?_)
        refine wp_alloc_zero _ rfl mZ zero_man ?_
        intro w5 hg5 hb5 hz5
        have hb35 : Below w3.heap.size w3 w5 := (Below.refl w3.heap.size w3).drew.trans hb5
        refine hK _ _ hb35 ?_
        clear hK
        refine mixb_call_as (o := ⟨_, _, _, _, _, _⟩) (by rfl) (by rfl) (by rfl) (fun K hK => ?_)
        refine wp_store_all _ _ _ rfl w3.heap.size rfl _ _ (mC (RT l) T ⟨L.toArray⟩) rfl hg5 (size_man hRT) (mZ_size.trans (mC_size hRT).symm) mC_one ?_
        intro w6 hg6 hgr6 hz6
        have hb36 : Below w3.heap.size w3 w6 := hb35.grown hgr6 hb35.size (fun g hg => by injection hg with hg; omega)
        refine hK _ _ hb36 ?_
        clear hK
        refine mix_done ?_
        clear hs3 hl3 hg5 hb5 hz5 hgr6
        simp only [Act.put, List.setIfInBounds_toArray, List.set_cons_succ, List.set_cons_zero, drew_size]
        have hb6 := hb3.trans (hb36.mono hb3.size)
        have hwlt : w.heap.size < w3.heap.size := Nat.lt_of_lt_of_le (by omega) hbl3.size
        have hg06 := (hb36.block w.heap.size hwlt).trans hg3
        have hMay := Lib.hid (fun W => May_any (RT l) T ⟨L.toArray⟩ hRT W (by simp [ByteArray.size]; omega))
        obtain ⟨mb, hmb⟩ : ∃ mb, mayB (T : Int) ⟨L.toArray⟩ = mb := ⟨_, rfl⟩
        rw [hmb] at hMay
        have hlt6 : w3.heap.size < w6.heap.size := (Array.getElem?_eq_some_iff.1 hg6).1
        cases mb
        · have HT := Lib.hid (take_no (l := l) (fun hok => by
            have h1 := tt_ok hok
            rw [HR.out] at h1
            simp only [Prod.mk.injEq] at h1
            have h2 := hok.2.2.2.2
            unfold sT at h2
            rw [← h1.1, HTT.out, hmb] at h2
            cases h2))
          clear hmb
          go_wp2_with (first
            | (refine wpList_load_all (by rfl) _ _ rfl w3.heap.size rfl _ _ _ _ hg6 Try.underlying25 rfl (size_man hRT) ?_)
            | (go_at_call 9; refine (hMay.out _).mono ?_; rintro e w7 ⟨rfl, hbl7⟩; have hb7 := hb6.trans (hbl7.mono hb6.size); have hg07 := (hbl7.block w.heap.size (by omega)).trans hg06)
            | (refine wpList_build_run rfl _ _ rfl #[] rfl _ (build_none _) ?_)
            | (refine wpList_store_all rfl _ _ _ rfl w.heap.size rfl _ _ _ rfl hg07 size_z rfl mZ_one ?_; intro w1 hg1 hgr1 hz1))
          refine bodyPost_ret (results_cell_tmp rfl _ _ w.heap.size _ _ _ _ rfl hg1 Try.underlying25 rfl size_z _ rfl) rfl ?_
          rw [HT.out]
          exact ⟨rfl, HFin.out _ _ w hb7 hgr1⟩
        · have hok := HM.out hmb
          have HT : Hid (takeM l = (mC (RT l) (T : Int) ⟨L.toArray⟩, 0)) := by
            show _ = _
            rw [take_yes hok.1, HTT.out]
            unfold sT
            rw [← hok.2]
          clear hmb hok
          go_wp2_with (first
            | (refine wpList_load_all (by rfl) _ _ rfl w3.heap.size rfl _ _ _ _ hg6 Try.underlying25 rfl (size_man hRT) ?_)
            | (go_at_call 9; refine (hMay.out _).mono ?_; rintro e w7 ⟨rfl, hbl7⟩; have hb7 := hb6.trans (hbl7.mono hb6.size); have hg07 := (hbl7.block w.heap.size (by omega)).trans hg06; have hg7 := (hbl7.block w3.heap.size hlt6).trans hg6)
            | (refine wpList_load_all (by rfl) _ _ rfl w3.heap.size rfl _ _ _ _ hg7 Try.underlying25 rfl (size_man hRT) ?_)
            | (refine wpList_store_all rfl _ _ _ rfl w.heap.size rfl _ _ (mC (RT l) (T : Int) ⟨L.toArray⟩) rfl hg07 (size_man hRT) (mZ_size.trans (mC_size hRT).symm) mC_one ?_; intro w1 hg1 hgr1 hz1))
          refine bodyPost_ret (results_cell_tmp rfl _ _ w.heap.size _ _ _ _ rfl hg1 Try.underlying25 rfl (size_man hRT) _ rfl) rfl ?_
          rw [HT.out]
          exact ⟨rfl, HFin.out _ _ w hb7 hgr1⟩
      · have HT := Lib.hid (take_no (l := l) (fun h => by
          have := tt_ok h
          rw [HR.out] at this
          simp only [Prod.mk.injEq] at this
          omega))
        have hk' : ((42 : Int) + k != n) = true := by
          simp
          omega
        clear hk
        go_enter Try.func13, Try.ntmps13
        go_wp2_with (first
          | (refine wpList_alloc_zero rfl _ rfl mZ zero_man ?_; intro w0 hg0 hb0 hz0; have hs2 := HS2.out _ hb0)
          | (go_at_call 20; refine (At_any A n c l 34 8 _ (h.below hb0) (by omega) (by omega)).mono ?_; rintro e w2 ⟨rfl, rfl⟩; rw [HA.out])
          | (go_at_call 21; refine (TakeText_any _ (n - 42) (c - 42) (l.drop 42) _ ((h.below hb0).drop_ (k := 42) h42') (by omega)).mono ?_; rintro e w3 ⟨A3, n3, c3, rfl, ho3, hbl3⟩; rw [HR.out] at ho3 ⊢; have hg3 := (hbl3.block w.heap.size (by omega)).trans hg0; have hb3 := hb0.trans (hbl3.mono hb0.size))
          | (refine wpList_build_run rfl _ _ rfl #[] rfl _ (build_none _) ?_)
          | (refine wpList_store_all rfl _ _ _ rfl w.heap.size rfl _ _ _ rfl hg3 size_z rfl mZ_one ?_; intro w1 hg1 hgr1 hz1))
        refine bodyPost_ret (results_cell_tmp rfl _ _ w.heap.size _ _ _ _ rfl hg1 Try.underlying25 rfl size_z _ rfl) rfl ?_
        rw [HT.out]
        exact ⟨rfl, HFin.out _ _ w hb3 hgr1⟩
    · have HT := Lib.hid (take_no (l := l) (fun h => by
        have := tt_ok h
        rw [HR.out] at this
        simp only [Prod.mk.injEq] at this
        exact he this.2.2))
      have he' : (e != 0) = true := by simpa using he
      clear he
      go_enter Try.func13, Try.ntmps13
      go_wp2_with (first
        | (refine wpList_alloc_zero rfl _ rfl mZ zero_man ?_; intro w0 hg0 hb0 hz0; have hs2 := HS2.out _ hb0)
        | (go_at_call 20; refine (At_any A n c l 34 8 _ (h.below hb0) (by omega) (by omega)).mono ?_; rintro e w2 ⟨rfl, rfl⟩; rw [HA.out])
        | (go_at_call 21; refine (TakeText_any _ (n - 42) (c - 42) (l.drop 42) _ ((h.below hb0).drop_ (k := 42) h42') (by omega)).mono ?_; rintro e w3 ⟨A3, n3, c3, rfl, ho3, hbl3⟩; rw [HR.out] at ho3 ⊢; have hg3 := (hbl3.block w.heap.size (by omega)).trans hg0; have hb3 := hb0.trans (hbl3.mono hb0.size))
        | (refine wpList_build_run rfl _ _ rfl #[] rfl _ (build_none _) ?_)
        | (refine wpList_store_all rfl _ _ _ rfl w.heap.size rfl _ _ _ rfl hg3 size_z rfl mZ_one ?_; intro w1 hg1 hgr1 hz1))
      refine bodyPost_ret (results_cell_tmp rfl _ _ w.heap.size _ _ _ _ rfl hg1 Try.underlying25 rfl size_z _ rfl) rfl ?_
      rw [HT.out]
      exact ⟨rfl, HFin.out _ _ w hb3 hgr1⟩
  · have HT := Lib.hid (take_no (l := l) (fun ⟨_, h, _⟩ => hXe (HX.out.symm.trans h)))
    have h34'' : decide ((n : Int) < 34) = false := by simpa using h34
    have hXb : (X == [83, 49]) = false := by simpa using hXe
    clear h34 hXe
    go_enter Try.func13, Try.ntmps13
    go_wp2_with (first
      | (refine wpList_alloc_zero rfl _ rfl mZ zero_man ?_; intro w0 hg0 hb0 hz0; have hs2 := HS2.out _ hb0)
      | (refine wpList_build_run rfl _ _ rfl #[] rfl _ (build_none _) ?_)
      | (refine wpList_store_all rfl _ _ _ rfl w.heap.size rfl _ _ _ rfl hg0 size_z rfl mZ_one ?_; intro w1 hg1 hgr1 hz1))
    refine bodyPost_ret (results_cell_tmp rfl _ _ w.heap.size _ _ _ _ rfl hg1 Try.underlying25 rfl size_z _ rfl) rfl ?_
    rw [HT.out]
    exact ⟨rfl, hb0.grown hgr1 hb0.size (fun g hg => by injection hg with hg; omega)⟩

end Go.Proofs.Ytebnmpgoiedicaa
