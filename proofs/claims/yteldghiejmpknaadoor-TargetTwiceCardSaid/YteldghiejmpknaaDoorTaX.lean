/-
  The laws TargetBack and TargetWrites.
-/
import Derived.Test.YteldghiejmpknaaDoorTaV
namespace Go.Proofs.YteldghiejmpknaaDoor
open Go.RowKit

theorem printR_no {P : List (List UInt8)} {Q : List Pm} (h : mayF P Q = false) : printR P Q = ([], 1) := by unfold printR; rw [h]; rfl
theorem printR_yes {P : List (List UInt8)} {Q : List Pm} (h : mayF P Q = true) : printR P Q = (printF P Q, 0) := by unfold printR; rw [h]; rfl
theorem printF_len {P : List (List UInt8)} {Q : List Pm} (hP : P.length ≤ 20) (hQ : Q.length ≤ 20) (hp : ∀ p ∈ P, p.length ≤ 1000) (hq : ∀ q ∈ Q, q.1.length ≤ 1000 ∧ q.2.length ≤ 1000) : (printF P Q).length ≤ 200000 := by
  have h1 := printP_len P hp
  have h2 := printQ_len Q 63 hq
  have h3 : (rootP P).length ≤ 1 + (printP P).length := by
    unfold rootP
    split
    · simp
    · omega
  unfold printF
  rw [List.length_append]
  omega

set_option maxRecDepth 20000 in
set_option maxHeartbeats 8000000 in
theorem targetBack_walk {w : World} (hm : Mx w) (A : Option Addr) (n c : Nat) (P : List (List UInt8)) (B : Option Addr) (m d : Nat) (Q : List Pm) (hS : Ss w A n c P) (hQ : Ps w B m d Q) :
    Calls Tryd.prog 5 #[.agg (tgA A n c B m d)] w fun e w' => e = .returned (.bool true) ∧ Below w.heap.size w w' := by
  have hPl : P.length = n := by have := Rd.len hS; simpa using this
  have hQl := hQ.len
  have HPL := Lib.hid hPl
  have HQL := Lib.hid hQl
  have HS := Lib.hid (fun W (hb : Below w.heap.size w W) => Rd.below hS hb)
  have HQ := Lib.hid (fun W (hb : Below w.heap.size w W) => hQ.below hb)
  have HM := Lib.hid (fun W (hb : Below w.heap.size w W) => hm.below hb)
  have HB := Lib.hid (fun W (hb : Below w.heap.size w W) => begun_any W (hm.below hb))
  clear hPl hQl hS hQ hm
  go_enter Tryd.func5, Tryd.ntmps5
  go_upto_region 1 with (refine wpList_box rfl _ _ rfl (tgA A n c B m d) rfl ?_; intro w1 hg1 hb1 hz1; clear hz1)
  have hBOX : ∀ W, Below w1.heap.size w1 W → W.heap[w.heap.size]? = some (.cells (tgA A n c B m d) 26 (0, 0)) := fun W hW => (hW.block _ (Array.getElem?_eq_some_iff.1 hg1).1).trans hg1
  have HBOX := Lib.hid hBOX
  have hbw : ∀ W, Below w1.heap.size w1 W → Below w.heap.size w W := fun W hW => hb1.trans (hW.mono hb1.size)
  have HBW := Lib.hid hbw
  clear hg1 hBOX hbw
  go_wp2_with fail
  refine (HB.out _ hb1).mono ?_
  rintro e w2 ⟨rfl, hb2⟩
  have hg2 := HBOX.out w2 hb2
  have HL := Lib.hid (light_any (HS.out w2 (HBW.out w2 hb2)) (HQ.out w2 (HBW.out w2 hb2)))
  clear hb1
  go_wp2_with (refine wpList_load_all (by rfl) _ _ rfl w.heap.size rfl _ _ _ _ hg2 Tryd.underlying26 rfl size_tg ?_)
  refine HL.out.mono ?_
  rintro e w3 ⟨⟨z, rfl, hz⟩, hbl3⟩
  have hb3 := hb2.trans (hbl3.mono hb2.size)
  have hg3 := HBOX.out w3 hb3
  have hbw3 := HBW.out w3 hb3
  clear hbl3 hg2 hb2 HL
  cases z
  · clear hz
    go_wp2_with fail
    go_ret
    exact ⟨rfl, hbw3⟩
  obtain ⟨hn, hm, hp, hq⟩ := hz rfl
  have HPP := Lib.hid (fun p h => (Nat.le_trans (hp p h) (by omega) : p.length ≤ 1000))
  have HQP := Lib.hid (fun q h => (⟨Nat.le_trans (hq q h).1 (by omega), Nat.le_trans (hq q h).2 (by omega)⟩ : q.1.length ≤ 1000 ∧ q.2.length ≤ 1000))
  have HPR := Lib.hid (Print_any (HS.out w3 hbw3) (HQ.out w3 hbw3) HPP.out HQP.out (by omega) (by omega))
  clear hz hp hq
  obtain ⟨y, hy⟩ : ∃ y, mayF P Q = y := ⟨_, rfl⟩
  cases y
  · rw [printR_no hy] at HPR
    go_wp2_with (refine wpList_load_all (by rfl) _ _ rfl w.heap.size rfl _ _ _ _ hg3 Tryd.underlying26 rfl size_tg ?_)
    refine HPR.out.mono ?_
    rintro e w4 ⟨rfl, hbl4⟩
    have hb4 := hb3.trans (hbl4.mono hb3.size)
    have hg4 := HBOX.out w4 hb4
    have hbw4 := HBW.out w4 hb4
    have HMA := Lib.hid (May_any (HS.out w4 hbw4) (HQ.out w4 hbw4) (fun p h => Nat.le_trans (HPP.out p h) (by omega)) (fun q h => ⟨Nat.le_trans (HQP.out q h).1 (by omega), Nat.le_trans (HQP.out q h).2 (by omega)⟩) (by omega))
    rw [hy] at HMA
    clear hbl4 hg3 hbw3 hb3 HPR hy
    go_wp2_with (refine wpList_load_all (by rfl) _ _ rfl w.heap.size rfl _ _ _ _ hg4 Tryd.underlying26 rfl size_tg ?_)
    refine HMA.out.mono ?_
    rintro e w5 ⟨rfl, hbl5⟩
    have hb5 := hbw4.trans (hbl5.mono hbw4.size)
    go_wp2_with fail
    go_ret
    exact ⟨rfl, hb5⟩
  · rw [printR_yes hy] at HPR
    have hpr := parse_print hy
    have hlen := printF_len (by rw [HPL.out]; exact hn) (by rw [HQL.out]; exact hm) HPP.out HQP.out
    have HPY := Lib.hid (printR_yes hy)
    obtain ⟨X, hX⟩ : ∃ X, printF P Q = X := ⟨_, rfl⟩
    rw [hX] at HPR hpr hlen HPY
    go_wp2_with (refine wpList_load_all (by rfl) _ _ rfl w.heap.size rfl _ _ _ _ hg3 Tryd.underlying26 rfl size_tg ?_)
    refine HPR.out.mono ?_
    rintro e w4 ⟨rfl, hbl4⟩
    have hb4 := hb3.trans (hbl4.mono hb3.size)
    have hbw4 := HBW.out w4 hb4
    have HPA := Lib.hid (Parse_any X (by omega) w4 (HM.out w4 hbw4))
    unfold Parsed at HPA
    rw [hpr] at HPA
    clear hbl4 hg3 hbw3 hb3 HPR hy hX hpr
    go_wp2_with fail
    refine HPA.out.mono ?_
    rintro e w5 ⟨hbl5, A', n', c', B', m', d', rfl, hoA, hoB⟩
    dsimp only at hoA hoB ⊢
    obtain rfl : n = n' := by have h1 := hoA.rd.len; have h2 := HPL.out; simp at h1; omega
    obtain rfl : m = m' := by have h1 := hoB.rd.len; have h2 := HQL.out; rw [prL_len] at h1; omega
    have hb5 := hb4.trans (hbl5.mono hb4.size)
    have hS5 := hoA.rd
    have hQ5 : Ps w5 B' m d' Q := hoB.rd
    clear hbl5 hoA hoB hb4 hbw4 HPA
    go_upto_region 9 with (first
      | (refine wpList_alloc_zero rfl _ rfl tgZ zero_tg ?_; intro w6 hg6 hb6 hz6; clear hz6)
      | (refine wpList_store_all rfl _ _ _ rfl w5.heap.size rfl _ tgZ (tgA A' n c' B' m d') rfl hg6 size_tg rfl tg_one ?_; intro w7 hg7 hgr7 hz7; clear hz7))
    have hb57 : Below w5.heap.size w5 w7 := hb6.grown hgr7 hb6.size (fun g hg => by obtain rfl := Option.some.inj hg; exact Nat.le_refl _)
    have hb7 := hb5.trans (hb57.mono hb5.size)
    have hlt7 : w5.heap.size < w7.heap.size := (Array.getElem?_eq_some_iff.1 hg7).1
    have hS7 := Rd.below hS5 hb57
    have hQ7 := hQ5.below hb57
    have HPR := Lib.hid (Print_any hS7 hQ7 HPP.out HQP.out (by omega) (by omega))
    rw [HPY.out] at HPR
    clear hg6 hb6 hgr7 hb57 hS5 hQ5 hb5
    go_wp2_with (refine wpList_load_all (by rfl) _ _ rfl w5.heap.size rfl _ _ _ _ hg7 Tryd.underlying26 rfl size_tg ?_)
    refine HPR.out.mono ?_
    rintro e w8 ⟨rfl, hbl8⟩
    have hb8 := hb7.trans (hbl8.mono hb7.size)
    have hg8 := HBOX.out w8 hb8
    have hgu := (hbl8.block _ hlt7).trans hg7
    have hbw8 := HBW.out w8 hb8
    have HSA := Lib.hid (Same_eq (HS.out w8 hbw8) (HQ.out w8 hbw8) (Rd.below hS7 hbl8) (hQ7.below hbl8))
    clear hbl8 hS7 hQ7 hb7 hg7 HPR HPY
    go_wp2_with (first
      | (refine wpList_load_all (by rfl) _ _ rfl w.heap.size rfl _ _ _ _ hg8 Tryd.underlying26 rfl size_tg ?_)
      | (refine wpList_load_all (by rfl) _ _ rfl w5.heap.size rfl _ _ _ _ hgu Tryd.underlying26 rfl size_tg ?_))
    refine HSA.out.mono ?_
    rintro e w9 ⟨rfl, hbl9⟩
    have hb9 := hbw8.trans (hbl9.mono hbw8.size)
    go_wp2_with fail
    go_ret
    exact ⟨rfl, hb9⟩

set_option maxRecDepth 20000 in
set_option maxHeartbeats 8000000 in
theorem targetWrites_walk {w : World} (hm : Mx w) (A : Option Addr) (n c : Nat) (P : List (List UInt8)) (B : Option Addr) (m d : Nat) (Q : List Pm) (hS : Ss w A n c P) (hQ : Ps w B m d Q) (s : ByteArray) (_ : s.size ≤ maxLen) :
    Calls Tryd.prog 4 #[.agg (tgA A n c B m d), .string s] w fun e w' => e = .returned (.bool true) ∧ Below w.heap.size w w' := by
  obtain ⟨l, rfl⟩ : ∃ l : List UInt8, s = ⟨l.toArray⟩ := ⟨s.data.toList, by cases s; simp⟩
  have hzl := size_mk l
  have HS := Lib.hid (fun W (hb : Below w.heap.size w W) => Rd.below hS hb)
  have HQ := Lib.hid (fun W (hb : Below w.heap.size w W) => hQ.below hb)
  have HB := Lib.hid (fun W (hb : Below w.heap.size w W) => begun_any W (hm.below hb))
  clear hS hQ hm
  go_enter Tryd.func4, Tryd.ntmps4
  go_upto_region 1 with (refine wpList_box rfl _ _ rfl (tgA A n c B m d) rfl ?_; intro w1 hg1 hb1 hz1; clear hz1)
  have hBOX : ∀ W, Below w1.heap.size w1 W → W.heap[w.heap.size]? = some (.cells (tgA A n c B m d) 26 (0, 0)) := fun W hW => (hW.block _ (Array.getElem?_eq_some_iff.1 hg1).1).trans hg1
  have HBOX := Lib.hid hBOX
  have hbw : ∀ W, Below w1.heap.size w1 W → Below w.heap.size w W := fun W hW => hb1.trans (hW.mono hb1.size)
  have HBW := Lib.hid hbw
  clear hg1 hBOX hbw
  go_wp2_with fail
  refine (HB.out _ hb1).mono ?_
  rintro e w2 ⟨rfl, hb2⟩
  have hg2 := HBOX.out w2 hb2
  have HL := Lib.hid (light_any (HS.out w2 (HBW.out w2 hb2)) (HQ.out w2 (HBW.out w2 hb2)))
  clear hb1
  go_wp2_with (refine wpList_load_all (by rfl) _ _ rfl w.heap.size rfl _ _ _ _ hg2 Tryd.underlying26 rfl size_tg ?_)
  refine HL.out.mono ?_
  rintro e w3 ⟨⟨z, rfl, hz⟩, hbl3⟩
  have hb3 := hb2.trans (hbl3.mono hb2.size)
  have hg3 := HBOX.out w3 hb3
  have hbw3 := HBW.out w3 hb3
  clear hbl3 hg2 hb2 HL
  cases z
  · clear hz
    go_wp2_with fail
    go_ret
    exact ⟨rfl, hbw3⟩
  by_cases hn : (200 : Int) < l.length
  · have hn' : decide ((200 : Int) < l.length) = true := decide_eq_true hn
    clear hn hz
    go_wp2_with fail
    go_ret
    exact ⟨rfl, hbw3⟩
  have hn' : decide ((200 : Int) < l.length) = false := decide_eq_false hn
  obtain ⟨hnn, hmm, hp, hq⟩ := hz rfl
  have HPP := Lib.hid (fun p h => (Nat.le_trans (hp p h) (by omega) : p.length ≤ 1000))
  have HQP := Lib.hid (fun q h => (⟨Nat.le_trans (hq q h).1 (by omega), Nat.le_trans (hq q h).2 (by omega)⟩ : q.1.length ≤ 1000 ∧ q.2.length ≤ 1000))
  have HP1 := Lib.hid (fun W (hb : Below w.heap.size w W) => Print_any (HS.out W hb) (HQ.out W hb) HPP.out HQP.out (by omega) (by omega))
  have HP2 := Lib.hid (fun W (hb : Below w.heap.size w W) => RPrint_any (HS.out W hb) (HQ.out W hb) HPP.out HQP.out (by omega) (by omega))
  have HG1 := Lib.hid (fun W (hb : Below w.heap.size w W) => Get_any (A := A) (n := n) (c := c) (HQ.out W hb) (by omega) l)
  have HG2 := Lib.hid (fun W (hb : Below w.heap.size w W) => RGet_any (A := A) (n := n) (c := c) (HQ.out W hb) (by omega) l)
  have HM1 := Lib.hid (fun W (hb : Below w.heap.size w W) => May_any (HS.out W hb) (HQ.out W hb) (fun p h => Nat.le_trans (HPP.out p h) (by omega)) (fun q h => ⟨Nat.le_trans (HQP.out q h).1 (by omega), Nat.le_trans (HQP.out q h).2 (by omega)⟩) (by omega))
  have HM2 := Lib.hid (fun W (hb : Below w.heap.size w W) => RMay_any (HS.out W hb) (HQ.out W hb) (fun p h => Nat.le_trans (HPP.out p h) (by omega)) (fun q h => ⟨Nat.le_trans (HQP.out q h).1 (by omega), Nat.le_trans (HQP.out q h).2 (by omega)⟩) (by omega))
  unfold Gotten at HG1 HG2
  obtain ⟨X, E, hX⟩ : ∃ X E, printR P Q = (X, E) := ⟨_, _, rfl⟩
  obtain ⟨V, f, hV⟩ : ∃ V f, getF Q l = (V, f) := ⟨_, _, rfl⟩
  obtain ⟨z, hzm⟩ : ∃ z, mayF P Q = z := ⟨_, rfl⟩
  rw [hX] at HP1 HP2
  rw [hV] at HG1 HG2
  rw [hzm] at HM1 HM2
  clear hz hp hq hn hX hV hzm hnn hmm
  go_wp2_with (refine wpList_load_all (by rfl) _ _ rfl w.heap.size rfl _ _ _ _ hg3 Tryd.underlying26 rfl size_tg ?_)
  refine (HP1.out _ hbw3).mono ?_
  rintro e w4 ⟨rfl, hbl4⟩
  have hb4 := hb3.trans (hbl4.mono hb3.size)
  have hg4 := HBOX.out w4 hb4
  have hbw4 := HBW.out w4 hb4
  clear hbl4 hb3 hg3 hbw3
  go_wp2_with (refine wpList_load_all (by rfl) _ _ rfl w.heap.size rfl _ _ _ _ hg4 Tryd.underlying26 rfl size_tg ?_)
  refine (HP2.out _ hbw4).mono ?_
  rintro e w5 ⟨rfl, hbl5⟩
  have hb5 := hb4.trans (hbl5.mono hb4.size)
  have hg5 := HBOX.out w5 hb5
  have hbw5 := HBW.out w5 hb5
  clear hbl5 hb4 hg4 hbw4
  go_wp2_with (refine wpList_load_all (by rfl) _ _ rfl w.heap.size rfl _ _ _ _ hg5 Tryd.underlying26 rfl size_tg ?_)
  refine (HG1.out _ hbw5).mono ?_
  rintro e w6 ⟨rfl, hbl6⟩
  have hb6 := hb5.trans (hbl6.mono hb5.size)
  have hg6 := HBOX.out w6 hb6
  have hbw6 := HBW.out w6 hb6
  clear hbl6 hb5 hg5 hbw5
  go_wp2_with (refine wpList_load_all (by rfl) _ _ rfl w.heap.size rfl _ _ _ _ hg6 Tryd.underlying26 rfl size_tg ?_)
  refine (HG2.out _ hbw6).mono ?_
  rintro e w7 ⟨rfl, hbl7⟩
  have hb7 := hb6.trans (hbl7.mono hb6.size)
  have hbw7 := HBW.out w7 hb7
  clear hbl7 hb6 hg6 hbw6
  go_upto_region 9 with fail
  have hld := fun b : Later w7 => run_loadVar_row (P := Tryd.prog) b.at' w.heap.size _ 26 _ _ _ (HBOX.out b.at' (hb7.trans (b.below.mono hb7.size))) Tryd.underlying26 rfl (size_tg (A := A) (n := n) (c := c) (B := B) (m := m) (d := d))
  refine wp_region_plan (MPlan.reads [0, 1, 2, 3, 4, 5, 6, 7, 8, 9, 10, 11, 12, 13, 14, 15, 16, 17, 18, 19, 21] (.one 20 (.one 22 (MPlan.reads [23, 24, 25] .fin)))) (fun x => ∃ b : Later w7, x = b.at') (by kernel_rfl) (by kernel_rfl) (by kernel_rfl) (fun _ _ _ _ _ h => h) ⟨⟨w7.drew, drewL⟩, rfl⟩ ?_
  iterate 19 (refine plan_read (o := ⟨_, _, _, _, _, _⟩) (by rfl) (by rfl) ?_; go_big_quiet_step (fail); refine wpQuiet_nil ?_)
  refine plan_load (o := ⟨_, _, _, _, _, _⟩) (by rfl) rfl (by rfl) _ rfl _ (fun w' hS => by obtain ⟨b, rfl⟩ := hS; exact hld b) ?_
  simp only [Act.put, List.setIfInBounds_toArray, List.set_cons_succ, List.set_cons_zero]
  refine plan_load (o := ⟨_, _, _, _, _, _⟩) (by rfl) rfl (by rfl) _ rfl _ (fun w' hS => by obtain ⟨b, rfl⟩ := hS; exact hld b) ?_
  simp only [Act.put, List.setIfInBounds_toArray, List.set_cons_succ, List.set_cons_zero]
  refine plan_one (o := ⟨_, _, _, _, _, _⟩) (by rfl) (fun K hK => ?_)
  go_wp2_with fail
  refine (HM1.out _ hbw7.drew).mono ?_
  rintro e w8 ⟨rfl, hbl8⟩
  have hb8 : Below w7.heap.size w7 w8 := drewL.trans hbl8
  go_wp2_with fail
  refine hK _ _ ⟨⟨w8, hb8⟩, rfl⟩ ?_
  clear hK
  refine plan_one (o := ⟨_, _, _, _, _, _⟩) (by rfl) (fun K hK => ?_)
  have hbw8 := hbw7.trans (hb8.mono hbw7.size)
  go_wp2_with fail
  refine (HM2.out _ hbw8).mono ?_
  rintro e w9 ⟨rfl, hbl9⟩
  have hb9 : Below w7.heap.size w7 w9 := hb8.trans (hbl9.mono hb8.size)
  go_wp2_with fail
  refine hK _ _ ⟨⟨w9, hb9⟩, rfl⟩ ?_
  clear hK
  iterate 3 (refine plan_read (o := ⟨_, _, _, _, _, _⟩) (by rfl) (by rfl) ?_; go_big_quiet_step (fail); refine wpQuiet_nil ?_)
  refine plan_fin ?_
  have hbw9 := hbw7.trans (hb9.mono hbw7.size)
  go_wp2_with fail
  go_ret
  exact ⟨rfl, hbw9⟩

end Go.Proofs.YteldghiejmpknaaDoor
