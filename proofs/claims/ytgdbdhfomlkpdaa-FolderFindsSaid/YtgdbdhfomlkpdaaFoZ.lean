/-
  Package folder: Find.
-/
import Derived.Test.YtgdbdhfomlkpdaaFoY
namespace Go.Proofs.Ytgdbdhfomlkpdaa
open Go.RowKit Go.Shelf Go.Sort

def boxed (w : World) (A : Option Addr) (n c : Nat) (s : ByteArray) : World := (w.alloc (.cells #[.slice A n c] 22)).alloc (.cells #[.string s] 9)
theorem boxed_below (w : World) (A : Option Addr) (n c : Nat) (s : ByteArray) : Below w.heap.size w (boxed w A n c s) := ((Below.refl _ w).alloc (Nat.le_refl _) _).alloc (by simp) _
theorem boxed_size (w : World) (A : Option Addr) (n c : Nat) (s : ByteArray) : (boxed w A n c s).heap.size = w.heap.size + 1 + 1 := by simp [boxed]
theorem boxed_l (w : World) (A : Option Addr) (n c : Nat) (s : ByteArray) : (boxed w A n c s).cell? ⟨w.heap.size, 0, none⟩ = some (.slice A n c) := cell_alloc_sl _ (cell_new_sl w _ _)
theorem boxed_s (w : World) (A : Option Addr) (n c : Nat) (s : ByteArray) : (boxed w A n c s).cell? ⟨w.heap.size + 1, 0, none⟩ = some (.string s) := by
  have := cell_new_sl (w.alloc (.cells #[.slice A n c] 22)) (.string s) 9
  rwa [World.size_alloc] at this

set_option maxRecDepth 20000 in
set_option maxHeartbeats 2000000 in
theorem Find_any {w : World} {A : Option Addr} {n c : Nat} {l : List It} (h : Its w A n c l) (s : ByteArray) :
    Calls Try.prog 24 #[.slice A n c, .string s] w (FindPost l s w) := by
  have hl := h.len
  have hmx : n ≤ maxLen := Nat.le_trans h.rd.le h.rd.max
  unfold maxLen at hmx
  have HM := Lib.hid (fun W (hb : Below w.heap.size w W) => May_any (h.below hb))
  obtain ⟨W0, hW0⟩ : ∃ W0, boxed w A n c s = W0 := ⟨_, rfl⟩
  have hb0 := boxed_below w A n c s
  have hz0 := boxed_size w A n c s
  have hl0 := boxed_l w A n c s
  have hs0 := boxed_s w A n c s
  rw [hW0] at hb0 hz0 hl0 hs0
  unfold boxed at hW0
  obtain ⟨w1, hw1⟩ : ∃ w1, W0.alloc (.cells (itA itZ) 33) = w1 := ⟨_, rfl⟩
  have hb1 : Below w.heap.size w (W0.alloc (.cells (itA itZ) 33)) := hb0.alloc hb0.size _
  have hl1 : w1.cell? ⟨w.heap.size, 0, none⟩ = some (.slice A n c) := by rw [← hw1]; exact cell_alloc_sl _ hl0
  have hs1 : w1.cell? ⟨w.heap.size + 1, 0, none⟩ = some (.string s) := by rw [← hw1]; exact cell_alloc_sl _ hs0
  have hg1 : w1.heap[w.heap.size + 1 + 1]? = some (.cells (itA itZ) 33 (0, 0)) := by rw [← hw1, ← hz0]; exact Array.getElem?_push_size
  have hz1 : w1.heap.size = w.heap.size + 1 + 1 + 1 := by rw [← hw1, World.size_alloc, hz0]
  have HZ1 := Lib.hid hz1
  clear hb0 hz1
  by_cases hm : mayL l = false
  · have HF := Lib.hid (findF_no hm s)
    rw [hm] at HM
    clear hm hl hmx
    go_enter Try.func24, Try.ntmps24
    go_wp2_with fail
    refine (HM.out (W0.alloc (.cells (itA itZ) 33)) hb1).mono ?_
    rintro e w2 ⟨rfl, hbl2⟩
    rw [hw1] at hbl2 hb1
    clear hl0 hs0 hz0
    have hb2 := hb1.trans (hbl2.mono hb1.size)
    have hg2 := (hbl2.block _ (Array.getElem?_eq_some_iff.1 hg1).1).trans hg1
    go_wp2_with (first
      | (refine wpList_build_run rfl _ _ rfl #[] (by rfl) _ (build_it0 _) ?_)
      | (refine wpList_store_all rfl _ _ _ rfl (w.heap.size + 1 + 1) rfl _ _ _ (by rfl) hg2 (size_it itZ_ok) (itA_same itZ_ok itZ_ok) itA_one ?_; intro wz hgz hgrz hzz; clear hzz))
    refine bodyPost_ret (results_cell_tmp rfl _ _ (w.heap.size + 1 + 1) _ _ _ _ rfl hgz Try.underlying33 rfl (size_it itZ_ok) _ rfl) rfl ?_
    exact ⟨by rw [HF.out]; rfl, hb2.grown hgrz hb2.size (fun g hg => by injection hg with hg; omega)⟩
  have hm' : mayL l = true := by simpa using hm
  rw [hm'] at HM
  have hmono := geAt_mono hm' s
  have hn64 := (mayL_inv hm').1
  rw [hl] at hn64
  rw [hl] at hmono
  obtain ⟨b, hbn, hlo, hhi⟩ := bound_ex (geAt l s) n hmono
  have hfb := findF_bound hm' hlo (by rw [hl]; exact hhi)
  rw [hl] at hfb
  have HFB := Lib.hid hfb
  have HCB := Lib.hid (count_bound (geAt l s) n b hbn hlo hhi)
  have HMO := Lib.hid hmono
  clear hm hm' hmono hlo hhi hfb
  go_enter Try.func24, Try.ntmps24
  go_wp2_with fail
  refine (HM.out (W0.alloc (.cells (itA itZ) 33)) hb1).mono ?_
  rintro e w2 ⟨rfl, hbl2⟩
  rw [hw1] at hbl2 hb1
  clear hl0 hs0 hz0
  have hb2 := hb1.trans (hbl2.mono hb1.size)
  have hg2 := (hbl2.block _ (Array.getElem?_eq_some_iff.1 hg1).1).trans hg1
  have hl2 := cell_later hbl2 hl1
  have hs2 := cell_later hbl2 hs1
  have h2 := h.below hb2
  have hz2 : w.heap.size + 1 + 1 < w2.heap.size := (Array.getElem?_eq_some_iff.1 hg2).1
  have HS := Lib.hid (Any.sort_Search search_lay 37 #[.pointer (some ⟨w.heap.size, 0, none⟩), .pointer (some ⟨w.heap.size + 1, 0, none⟩)] n (geAt l s) w2 (enters_of Try.func37 (by kernel_rfl) rfl) (by omega)
    (fun m os i hi => (find_closure (h2.below (below_grown_sl w2.heap.size w2 m os (Nat.le_refl _))) _ _ s i hi (cell_grown (show w.heap.size < w2.heap.size by omega) hl2 m os) (cell_grown (show w.heap.size + 1 < w2.heap.size by omega) hs2 m os)).mono fun _ _ ⟨he, q, hq⟩ => ⟨he, q, #[], by rw [hq, grow_empty]⟩) HMO.out)
  rw [HCB.out] at HS
  clear hw1 hl1 hs1 hg1 hbl2
  go_wp2_with fail
  refine HS.out.mono ?_
  rintro e w3 ⟨rfl, q, os, rfl⟩
  have hbl3 := below_grown_sl w2.heap.size w2 q os (Nat.le_refl _)
  obtain ⟨w3, hw3⟩ : ∃ w3, grow (w2.drewN q) os = w3 := ⟨_, rfl⟩
  rw [hw3] at hbl3 ⊢
  have hb3 := hb2.trans (hbl3.mono hb2.size)
  have hg3 := (hbl3.block _ hz2).trans hg2
  have hl3 := cell_later hbl3 hl2
  have hs3 := cell_later hbl3 hs2
  have h3 := h2.below hbl3
  clear hw3 HS hl2 hs2 hg2 hbl3 h2
  by_cases hbe : b = n
  · subst hbe
    have HF := Lib.hid (HFB.out.1 (Nat.le_refl _))
    have hbb : ((b : Int) == (b : Int)) = true := by simp
    go_wp2_with fail
    go_quiet (fail)
    have hb4 := below_drewN hb3 nq
    have hg4 : (w3.drewN nq).heap[w.heap.size + 1 + 1]? = some (.cells (itA itZ) 33 (0, 0)) := hg3
    clear hl3 hs3 hg3 hb3
    go_wp2_with (first
      | (refine wpList_build_run rfl _ _ rfl #[] (by rfl) _ (build_it0 _) ?_)
      | (refine wpList_store_all rfl _ _ _ rfl (w.heap.size + 1 + 1) rfl _ _ _ (by rfl) hg4 (size_it itZ_ok) (itA_same itZ_ok itZ_ok) itA_one ?_; intro wz hgz hgrz hzz; clear hzz))
    refine bodyPost_ret (results_cell_tmp rfl _ _ (w.heap.size + 1 + 1) _ _ _ _ rfl hgz Try.underlying33 rfl (size_it itZ_ok) _ rfl) rfl ?_
    exact ⟨by rw [HF.out]; rfl, hb4.grown hgrz hb4.size (fun g hg => by injection hg with hg; omega)⟩
  · have hbn' : b < n := by omega
    obtain ⟨x, hx⟩ : ∃ x, l[b]? = some x := ⟨_, List.getElem?_eq_getElem (by omega)⟩
    have HF := Lib.hid (HFB.out.2 x hx)
    have hidx := run_index_rd (P := Try.prog) (A := A) (n := n) (c := c) ei h.rd.nil h.rd.le b hbn'
    have hname : w3.cell? (at_ A (b * 35)) = some (.string x.nm) := h3.name hx
    have hld := h3.load hx
    have hok := h.ok x (List.mem_of_getElem? hx)
    have hbb : ((b : Int) == (n : Int)) = false := by
      have : ¬ (b : Int) = n := by omega
      simpa using this
    have HX := Lib.hid hx
    clear HFB hbe hx
    by_cases hs : (x.nm.toList == s.toList) = true
    · rw [if_pos hs] at HF
      go_wp2_with fail
      go_quiet (fail)
      have hb4 := below_drewN hb3 nq
      have hg4 : (w3.drewN nq).heap[w.heap.size + 1 + 1]? = some (.cells (itA itZ) 33 (0, 0)) := hg3
      have hl4 : (w3.drewN nq).cell? ⟨w.heap.size, 0, none⟩ = some (.slice A n c) := hl3
      have hld4 : (loadVar 33 (at_ A (b * 35))).run Try.prog (w3.drewN nq) = .ok (.agg (itA x)) (w3.drewN nq) := ((h.below hb4).load HX.out)
      clear hl3 hs3 hg3 hb3 hname hld h3
      go_wp2_with (first
        | (refine wpList_load_run (by rfl) _ _ rfl _ rfl _ hld4 ?_)
        | (refine wpList_store_all rfl _ _ _ rfl (w.heap.size + 1 + 1) rfl _ _ _ (by rfl) hg4 (size_it hok) (itA_same itZ_ok hok) itA_one ?_; intro wz hgz hgrz hzz; clear hzz))
      refine bodyPost_ret (results_cell_tmp rfl _ _ (w.heap.size + 1 + 1) _ _ _ _ rfl hgz Try.underlying33 rfl (size_it hok) _ rfl) rfl ?_
      exact ⟨by rw [HF.out]; rfl, hb4.grown hgrz hb4.size (fun g hg => by injection hg with hg; omega)⟩
    · rw [if_neg hs] at HF
      have hs' : (x.nm.toList == s.toList) = false := by simpa using hs
      clear hs hld
      go_wp2_with fail
      go_quiet (fail)
      have hb4 := below_drewN hb3 nq
      have hg4 : (w3.drewN nq).heap[w.heap.size + 1 + 1]? = some (.cells (itA itZ) 33 (0, 0)) := hg3
      clear hl3 hs3 hg3 hb3 hname h3
      go_wp2_with (first
        | (refine wpList_build_run rfl _ _ rfl #[] (by rfl) _ (build_it0 _) ?_)
        | (refine wpList_store_all rfl _ _ _ rfl (w.heap.size + 1 + 1) rfl _ _ _ (by rfl) hg4 (size_it itZ_ok) (itA_same itZ_ok itZ_ok) itA_one ?_; intro wz hgz hgrz hzz; clear hzz))
      refine bodyPost_ret (results_cell_tmp rfl _ _ (w.heap.size + 1 + 1) _ _ _ _ rfl hgz Try.underlying33 rfl (size_it itZ_ok) _ rfl) rfl ?_
      exact ⟨by rw [HF.out]; rfl, hb4.grown hgrz hb4.size (fun g hg => by injection hg with hg; omega)⟩

end Go.Proofs.Ytgdbdhfomlkpdaa
