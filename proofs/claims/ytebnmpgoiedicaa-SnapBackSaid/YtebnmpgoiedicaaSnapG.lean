/-
  The document's Take.
-/
import Derived.Test.YtebnmpgoiedicaaSnapF
namespace Go.Proofs.Ytebnmpgoiedicaa
open Go.RowKit

/-- A number of eight bytes as a signed one. -/
def sgn (T : Nat) : Int := if T ≤ 9223372036854775807 then (T : Int) else (T : Int) - 18446744073709551616
theorem sgn_wrap (T : Nat) (h : T < 18446744073709551616) : wrap64 (T : Int) = sgn T := by
  unfold sgn wrap64
  split <;> omega
theorem sgn_wrap' (T : Nat) (h : T < 18446744073709551616) : IntKind.i64.wrap (T : Int) = sgn T := by
  rw [IntKind.wrap_i64]
  unfold sgn
  split <;> omega
theorem sgn_bounds (T : Nat) (h : T < 18446744073709551616) : -9223372036854775808 ≤ sgn T ∧ sgn T ≤ 9223372036854775807 := by
  unfold sgn
  split <;> omega

set_option maxRecDepth 20000 in
set_option maxHeartbeats 40000000 in
theorem RTake_any (A : Option Addr) (n c : Nat) (l : List UInt8) (w : World) (h : Rd w 1 A n c (l.map b8)) (hn : n ≤ 1048576) :
    Calls Try.prog 14 #[.slice A n c] w fun e w' => e = .returned (.tuple #[.agg (takeM l).1, .int .i64 (takeM l).2]) ∧ Below w.heap.size w w' := by
  have hln := h.lenb
  have hnc := h.le
  by_cases h43 : (n : Int) < 43
  · have HT := Lib.hid (take_no (l := l) (fun ⟨h, _⟩ => by omega))
    go_enter Try.func14, Try.ntmps14
    go_wp2_with (first
      | (refine wpList_alloc_zero rfl _ rfl mZ zero_man ?_; intro w0 hg0 hb0 hz0)
      | (refine wpList_build_run rfl _ _ rfl #[] rfl _ (build_none _) ?_)
      | (refine wpList_store_all rfl _ _ _ rfl w.heap.size rfl _ _ _ rfl hg0 size_z rfl mZ_one ?_; intro w1 hg1 hgr1 hz1))
    refine bodyPost_ret (results_cell_tmp rfl _ _ w.heap.size _ _ _ _ rfl hg1 Try.underlying25 rfl size_z _ rfl) rfl ?_
    rw [HT.out]
    exact ⟨rfl, hb0.grown hgr1 hb0.size (fun g hg => by injection hg with hg; omega)⟩
  have h43' : (43 : Int) ≤ n := by omega
  have HB := Lib.hid (bytes_back (l := l) (by omega))
  have hfin : ∀ (w1 w3 : World), Below w.heap.size w w1 → w1.grownBy w3 (some w.heap.size) → Below w.heap.size w w3 := fun w1 w3 hb hg => hb.grown hg hb.size (fun g hg => by injection hg with hg; omega)
  have HFin := Lib.hid hfin
  have HA := Lib.hid (at_long (l := l) (by omega))
  have hT64 := tT_lt l
  have hRT := RT_length (show 34 ≤ l.length by omega)
  have hsz := sT_size l
  obtain ⟨T, hT⟩ : ∃ T, tT l = T := ⟨_, rfl⟩
  obtain ⟨s, hs⟩ : ∃ s, sT l = s := ⟨_, rfl⟩
  rw [hT] at HA hT64
  rw [hT, hs] at HB
  rw [hs] at hsz
  have hT64' : (T : Int) ≤ 18446744073709551615 := by omega
  have e1 := sgn_wrap T hT64
  have e2 := sgn_wrap' T hT64
  have e3 := sgn_bounds T hT64
  have HB2 : Hid (bytesP (RT l) (sgn T) s = (l, 0) ↔ okT l) := HB.out
  obtain ⟨t, ht⟩ : ∃ t, sgn T = t := ⟨_, rfl⟩
  rw [ht] at e1 e2 e3 HB2
  obtain ⟨e4, e5⟩ := e3
  have HTok : Hid (okT l → takeM l = (mC (RT l) t s, 0)) := by
    show _ → _
    intro hok
    have := hok.2.2.1
    rw [take_yes hok, hs, ← ht]
    unfold sgn
    rw [hT] at this ⊢
    rw [if_pos this]
  have Hs := Lib.hid hs
  have hss : s.size ≤ 1048576 := by omega
  clear hT hs ht h43 HB hfin hT64 hsz
  cases A with
  | none =>
    have := h.nil rfl
    omega
  | some ad =>
  have hsl234 := run_slice_lh_rd (P := Try.prog) (A := some ad) (n := n) (c := c) eb (kl := .i64) (kh := .i64) 2 34 (L := 2) (H := 34) rfl rfl (by omega) (by omega)
  have ecut : cutA (some ad) c 2 1 = some (ad.add 2) := by
    unfold cutA
    rw [if_neg (by omega)]
    rfl
  rw [ecut] at hsl234
  have hsl234' : ∀ W, (Instr.sliceAt 27 (.slice (some ad) n c) (some (.int .i64 2)) (some (.int .i64 34)) none).run Try.prog W = .ok (.slice (some (ad.add 2)) 32 (c - 2)) W := hsl234
  clear hsl234
  have harr := run_arr (ad.add 2) (c - 2)
  have hsl43 := run_slice_l_rd (P := Try.prog) (A := some ad) (n := n) (c := c) eb (kl := .i64) 43 (L := 43) rfl (by omega)
  have hrt : Rd w 1 (some (ad.add 2)) 32 (c - 2) ((RT l).map b8) := by
    have := h.cut (lo := 2) (hi := 34) (by omega) (by omega)
    rw [ecut, ← List.map_drop, ← List.map_take] at this
    exact this
  have hst : ∀ W : World, Below w.heap.size w W → (convert 27 9 (.slice (cutA (some ad) c 43 1) (n - 43) (c - 43))).run Try.prog W = .ok (.string s) W := fun W hb => by
    have := str_rd ((h.below hb).drop_ (k := 43) (by omega))
    rw [← Hs.out]
    exact this
  have HRT := Lib.hid hrt
  have HST := Lib.hid hst
  clear hrt ecut hst
  obtain ⟨C, E, hCE⟩ : ∃ C E, bytesP (RT l) t s = (C, E) := ⟨_, _, rfl⟩
  have HBy := Lib.hid (fun W => RBytes_any (RT l) t s hRT W hss e4 e5)
  rw [hCE] at HBy HB2
  clear hCE
  go_enter Try.func14, Try.ntmps14
  go_wp2_with (first
    | (refine wpList_alloc_zero rfl _ rfl mZ zero_man ?_; intro w0 hg0 hb0 hz0)
    | (go_at_call 22; refine (RAt_any (some ad) n c l 34 8 _ (h.below hb0) (by omega) (by omega)).mono ?_; rintro e w2 ⟨rfl, rfl⟩; rw [HA.out]))
  have hs3 := fun b : Later w0 => HST.out b.at' (hb0.trans (b.below.mono hb0.size))
  have hl3 := fun b : Later w0 => run_loadVar_arr (P := Try.prog) (ty := 23) Try.underlying23 (by kernel_rfl) (HRT.out.below (hb0.trans (b.below.mono hb0.size)))
  refine wp_region_mixb (List.range 12) (by kernel_rfl) (by kernel_rfl) (by rfl) (by kernel_rfl) (fun _ _ _ _ _ h => h) ?_
  iterate 2 (refine mix_read (o := ⟨_, _, _, _, _, _⟩) (by rfl) (by rfl) ?_; go_big_quiet_step (fail); refine wpQuiet_nil ?_)
  refine mix_arr (o := ⟨_, _, _, _, _, _⟩) (by rfl) rfl (by rfl) _ rfl _ (fun w' _ => harr w') ?_
  refine mix_load (o := ⟨_, _, _, _, _, _⟩) (by rfl) rfl (by rfl) _ rfl _ (fun w' hS => by obtain ⟨b, rfl⟩ := hS; exact hl3 b) ?_
  simp only [Act.put, List.setIfInBounds_toArray, List.set_cons_succ, List.set_cons_zero]
  iterate 5 (refine mix_read (o := ⟨_, _, _, _, _, _⟩) (by rfl) (by rfl) ?_; go_big_quiet_step (fail); refine wpQuiet_nil ?_)
  refine mix_build (o := ⟨_, _, _, _, _, _⟩) (by rfl) rfl (by rfl) #[(0, .agg ((RT l).map b8).toArray), (1, .int .i64 t), (2, .string s)] (by rw [List.map_toArray]; rfl) _ (fun w' _ => build_man hRT t s w') ?_
  simp only [Act.put, List.setIfInBounds_toArray, List.set_cons_succ, List.set_cons_zero]
  refine mixb_call_as (o := ⟨_, _, _, _, _, _⟩) (by rfl) (by rfl) (by rfl) (fun K hK => ?_)
  refine wp_alloc_zero _ rfl mZ zero_man ?_
  intro w5 hg5 hb5 hz5
  have hb35 : Below w0.heap.size w0 w5 := (Below.refl w0.heap.size w0).drew.trans hb5
  refine hK _ _ hb35 ?_
  clear hK
  refine mixb_call_as (o := ⟨_, _, _, _, _, _⟩) (by rfl) (by rfl) (by rfl) (fun K hK => ?_)
  refine wp_store_all _ _ _ rfl w0.heap.size rfl _ _ (mC (RT l) t s) rfl hg5 (size_man hRT) (mZ_size.trans (mC_size hRT).symm) mC_one ?_
  intro w6 hg6 hgr6 hz6
  have hb36 : Below w0.heap.size w0 w6 := hb35.grown hgr6 hb35.size (fun g hg => by injection hg with hg; omega)
  refine hK _ _ hb36 ?_
  clear hK
  refine mix_done ?_
  clear hs3 hl3 hg5 hb5 hz5 hgr6
  simp only [Act.put, List.setIfInBounds_toArray, List.set_cons_succ, List.set_cons_zero, drew_size]
  have hb6 := hb0.trans (hb36.mono hb0.size)
  have hwlt : w.heap.size < w0.heap.size := by omega
  have hg06 := (hb36.block w.heap.size hwlt).trans hg0
  have hlt6 : w0.heap.size < w6.heap.size := (Array.getElem?_eq_some_iff.1 hg6).1
  by_cases hE : E = 0
  · subst hE
    by_cases hC : C = l
    · subst hC
      have HT : Hid (takeM C = _) := HTok.out (HB2.out.1 rfl)
      clear hz6 hz0
      go_wp2_with (first
        | (refine wpList_load_all (by rfl) _ _ rfl w0.heap.size rfl _ _ _ _ hg6 Try.underlying25 rfl (size_man hRT) ?_)
        | (go_at_call 8; refine (HBy.out _).mono ?_; rintro e w7 ⟨A7, n7, c7, rfl, ho7, hbl7⟩; have hb7 := hb6.trans (hbl7.mono hb6.size); have hg07 := (hbl7.block w.heap.size (by omega)).trans hg06; have hg7 := (hbl7.block w0.heap.size hlt6).trans hg6; have k1 := str_rd ho7.rd; have k2 := str_rd (h.below hb7))
        | (refine wpList_load_all (by rfl) _ _ rfl w0.heap.size rfl _ _ _ _ hg7 Try.underlying25 rfl (size_man hRT) ?_)
        | (refine wpList_store_all rfl _ _ _ rfl w.heap.size rfl _ _ (mC (RT C) t s) rfl hg07 (size_man hRT) (mZ_size.trans (mC_size hRT).symm) mC_one ?_; intro w1 hg1 hgr1 hz1))
      refine bodyPost_ret (results_cell_tmp rfl _ _ w.heap.size _ _ _ _ rfl hg1 Try.underlying25 rfl (size_man hRT) _ rfl) rfl ?_
      rw [HT.out]
      exact ⟨rfl, HFin.out _ _ hb7 hgr1⟩
    · have HT := Lib.hid (take_no (l := l) (fun hok => by
        have := HB2.out.2 hok
        simp only [Prod.mk.injEq, and_true] at this
        exact hC this))
      have hCb : (C == l) = false := by simpa using hC
      clear hC hz6 hz0
      go_wp2_with (first
        | (refine wpList_load_all (by rfl) _ _ rfl w0.heap.size rfl _ _ _ _ hg6 Try.underlying25 rfl (size_man hRT) ?_)
        | (go_at_call 8; refine (HBy.out _).mono ?_; rintro e w7 ⟨A7, n7, c7, rfl, ho7, hbl7⟩; have hb7 := hb6.trans (hbl7.mono hb6.size); have hg07 := (hbl7.block w.heap.size (by omega)).trans hg06; have k1 := str_rd ho7.rd; have k2 := str_rd (h.below hb7))
        | (refine wpList_build_run rfl _ _ rfl #[] rfl _ (build_none _) ?_)
        | (refine wpList_store_all rfl _ _ _ rfl w.heap.size rfl _ _ _ rfl hg07 size_z rfl mZ_one ?_; intro w1 hg1 hgr1 hz1))
      refine bodyPost_ret (results_cell_tmp rfl _ _ w.heap.size _ _ _ _ rfl hg1 Try.underlying25 rfl size_z _ rfl) rfl ?_
      rw [HT.out]
      exact ⟨rfl, HFin.out _ _ hb7 hgr1⟩
  · have HT := Lib.hid (take_no (l := l) (fun hok => by
      have := HB2.out.2 hok
      simp only [Prod.mk.injEq] at this
      exact hE this.2))
    have hEb : (E != 0) = true := by simpa using hE
    clear hE hz6 hz0
    go_wp2_with (first
      | (refine wpList_load_all (by rfl) _ _ rfl w0.heap.size rfl _ _ _ _ hg6 Try.underlying25 rfl (size_man hRT) ?_)
      | (go_at_call 8; refine (HBy.out _).mono ?_; rintro e w7 ⟨A7, n7, c7, rfl, ho7, hbl7⟩; have hb7 := hb6.trans (hbl7.mono hb6.size); have hg07 := (hbl7.block w.heap.size (by omega)).trans hg06)
      | (refine wpList_build_run rfl _ _ rfl #[] rfl _ (build_none _) ?_)
      | (refine wpList_store_all rfl _ _ _ rfl w.heap.size rfl _ _ _ rfl hg07 size_z rfl mZ_one ?_; intro w1 hg1 hgr1 hz1))
    refine bodyPost_ret (results_cell_tmp rfl _ _ w.heap.size _ _ _ _ rfl hg1 Try.underlying25 rfl size_z _ rfl) rfl ?_
    rw [HT.out]
    exact ⟨rfl, HFin.out _ _ hb7 hgr1⟩

end Go.Proofs.Ytebnmpgoiedicaa
