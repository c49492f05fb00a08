/-
  Package folder: the document's Find.
-/
import Derived.Test.YtgdbdhfomlkpdaaFoX
import Derived.Test.YtgdbdhfomlkpdaaFoE
import Derived.Test.YtgdbdhfomlkpdaaFoI
namespace Go.Proofs.Ytgdbdhfomlkpdaa
open Go.RowKit

/-- What Find hands back. -/
def FindPost (l : List It) (s : ByteArray) (w : World) (e : Ending) (w' : World) : Prop := e = .returned (.tuple #[.agg (itA (findF l s).1), .int .i64 (findF l s).2]) ∧ Below w.heap.size w w'

set_option maxRecDepth 20000 in
set_option maxHeartbeats 2000000 in
theorem RFind_any {w : World} {A : Option Addr} {n c : Nat} {l : List It} (h : Its w A n c l) (s : ByteArray) :
    Calls Try.prog 25 #[.slice A n c, .string s] w (FindPost l s w) := by
  have hl := h.len
  have hmx : n ≤ maxLen := Nat.le_trans h.rd.le h.rd.max
  unfold maxLen at hmx
  have HM := Lib.hid (fun W (hb : Below w.heap.size w W) => RMay_any (h.below hb))
  by_cases hm : mayL l = false
  · have HF := Lib.hid (findF_no hm s)
    rw [hm] at HM
    clear hm hl hmx
    go_enter Try.func25, Try.ntmps25
    go_wp2_with (first
      | (refine wpList_alloc_zero rfl _ rfl (itA itZ) zero_it ?_; intro w1 hg1 hb1 hz1; clear hz1))
    refine (HM.out _ hb1).mono ?_
    rintro e w2 ⟨rfl, hbl2⟩
    have hb2 := hb1.trans (hbl2.mono hb1.size)
    have hg2 := (hbl2.block _ (Array.getElem?_eq_some_iff.1 hg1).1).trans hg1
    go_wp2_with (first
      | (refine wpList_build_run rfl _ _ rfl #[] (by rfl) _ (build_it0 _) ?_)
      | (refine wpList_store_all rfl _ _ _ rfl w.heap.size rfl _ _ _ (by rfl) hg2 (size_it itZ_ok) (itA_same itZ_ok itZ_ok) itA_one ?_; intro wz hgz hgrz hzz; clear hzz))
    refine bodyPost_ret (results_cell_tmp rfl _ _ w.heap.size _ _ _ _ rfl hgz Try.underlying33 rfl (size_it itZ_ok) _ rfl) rfl ?_
    exact ⟨by rw [HF.out]; rfl, hb2.grown hgrz hb2.size (fun g hg => by injection hg with hg; omega)⟩
  have hm' : mayL l = true := by simpa using hm
  rw [hm'] at HM
  have HMA := Lib.hid hm'
  clear hm hm'
  go_enter Try.func25, Try.ntmps25
  go_wp2_with (first
    | (refine wpList_alloc_zero rfl _ rfl (itA itZ) zero_it ?_; intro w1 hg1 hb1 hz1; clear hz1))
  refine (HM.out _ hb1).mono ?_
  rintro e w2 ⟨rfl, hbl2⟩
  have hb2 := hb1.trans (hbl2.mono hb1.size)
  have hg2 := (hbl2.block _ (Array.getElem?_eq_some_iff.1 hg1).1).trans hg1
  clear hg1 hb1 hbl2
  go_wp2_with fail
  go_loopw [6] (fun i wr => ∃ j : Nat, j ≤ n ∧ i = .int .i64 j ∧ wr.heap[w.heap.size]? = some (.cells (itA itZ) 33 (0, 0)) ∧ Below w.heap.size w wr ∧ Hid (∀ (t : Nat) (y : It), t < j → l[t]? = some y → (y.nm.toList == s.toList) = false)) (fun i _ => n - (intOf i).toNat)
  case atStart => exact ⟨0, by omega, rfl, hg2, hb2, (fun t y ht => by omega : ∀ (t : Nat) (y : It), t < 0 → l[t]? = some y → (y.nm.toList == s.toList) = false)⟩
  case round =>
    obtain ⟨j, hj, rfl, hgr, hbr, HNO⟩ := hrel
    by_cases hjn : j < n
    · obtain ⟨x, hx⟩ : ∃ x, l[j]? = some x := ⟨_, List.getElem?_eq_getElem (by omega)⟩
      have hr := h.below hbr
      have hidx := run_index_rd (P := Try.prog) (A := A) (n := n) (c := c) ei h.rd.nil h.rd.le j hjn
      have hname : wr.cell? (at_ A (j * 35)) = some (.string x.nm) := hr.name hx
      have hld := hr.load hx
      have hok := h.ok x (List.mem_of_getElem? hx)
      have HX := Lib.hid hx
      clear hx hr
      by_cases hs : (x.nm.toList == s.toList) = true
      · have HF := Lib.hid (findF_first HMA.out HX.out hs HNO.out)
        go_wp2_with (first
          | (refine wpList_load_run (by rfl) _ _ rfl _ rfl _ hld ?_)
          | (refine wpList_store_all rfl _ _ _ rfl w.heap.size rfl _ _ _ (by rfl) hgr (size_it hok) (itA_same itZ_ok hok) itA_one ?_; intro wz hgz hgrz hzz; clear hzz))
        refine bodyPost_ret (results_cell_tmp rfl _ _ w.heap.size _ _ _ _ rfl hgz Try.underlying33 rfl (size_it hok) _ rfl) rfl ?_
        exact ⟨by rw [HF.out]; rfl, hbr.grown hgrz hbr.size (fun g hg => by injection hg with hg; omega)⟩
      · have hs' : (x.nm.toList == s.toList) = false := by simpa using hs
        clear hs hld
        go_wp2_with fail
        go_roundw
        case rel =>
          refine ⟨j + 1, by omega, by go_num, hgr, hbr, (fun t y ht hy => ?_ : ∀ (t : Nat) (y : It), t < j + 1 → l[t]? = some y → (y.nm.toList == s.toList) = false)⟩
          by_cases e : t < j
          · exact HNO.out t y e hy
          · obtain rfl : t = j := by omega
            have := HX.out
            rw [hy] at this
            injection this with this
            rw [this]
            exact hs'
        case measure => simp [intOf]; omega
    · have e : j = n := by omega
      subst e
      have HF := Lib.hid (findF_none HMA.out (s := s) (fun t y hy => HNO.out t y (by have := (List.getElem?_eq_some_iff.1 hy).1; omega) hy))
      go_wp2_with (first
        | (refine wpList_build_run rfl _ _ rfl #[] (by rfl) _ (build_it0 _) ?_)
        | (refine wpList_store_all rfl _ _ _ rfl w.heap.size rfl _ _ _ (by rfl) hgr (size_it itZ_ok) (itA_same itZ_ok itZ_ok) itA_one ?_; intro wz hgz hgrz hzz; clear hzz))
      refine bodyPost_ret (results_cell_tmp rfl _ _ w.heap.size _ _ _ _ rfl hgz Try.underlying33 rfl (size_it itZ_ok) _ rfl) rfl ?_
      exact ⟨by rw [HF.out]; rfl, hbr.grown hgrz hbr.size (fun g hg => by injection hg with hg; omega)⟩

end Go.Proofs.Ytgdbdhfomlkpdaa
