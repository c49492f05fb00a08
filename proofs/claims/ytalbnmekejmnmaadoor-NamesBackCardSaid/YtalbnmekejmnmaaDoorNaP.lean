/-
  Package names: ID.
-/
import Derived.Test.YtalbnmekejmnmaaDoorNaO
import Derived.Test.YtalbnmekejmnmaaDoorIdv
namespace Go.Proofs.YtalbnmekejmnmaaDoor
open Go.RowKit

/-- What ID answers. -/
noncomputable def idR (s : ByteArray) : List UInt8 × Int := if (uxR s).2 = 0 then (if (uxR s).1.length = 32 then ((uxR s).1, 0) else (zid, 9)) else (zid, (uxR s).2)
theorem idR_no {s : ByteArray} (h : (uxR s).2 ≠ 0) : idR s = (zid, (uxR s).2) := if_neg h
theorem idR_size {s : ByteArray} (h : (uxR s).2 = 0) (h2 : (uxR s).1.length ≠ 32) : idR s = (zid, 9) := (if_pos h).trans (if_neg h2)
theorem idR_yes {s : ByteArray} (h : (uxR s).2 = 0) (h2 : (uxR s).1.length = 32) : idR s = ((uxR s).1, 0) := (if_pos h).trans (if_pos h2)
theorem idR_len (s : ByteArray) : (idR s).1.length = 32 := by
  unfold idR
  split
  · split
    · assumption
    · exact zid_len
  · exact zid_len

set_option maxRecDepth 20000 in
set_option maxHeartbeats 4000000 in
theorem ID_any (s : ByteArray) (hm : (s.size : Int) ≤ 1073741824) (w : World) : Calls Tryd.prog 20 #[.string s] w fun e w' => e = .returned (.tuple #[.agg (idA (idR s).1), .int .i64 (idR s).2]) ∧ Below w.heap.size w w' := by
  obtain ⟨L, hL⟩ : ∃ L, (uxR s).1 = L := ⟨_, rfl⟩
  obtain ⟨E, hE⟩ : ∃ E, (uxR s).2 = E := ⟨_, rfl⟩
  have HU := Lib.hid (Unhex_any s hm)
  rw [hL, hE] at HU
  by_cases h0 : E = 0
  · subst h0
    by_cases h32 : L.length = 32
    · have HI := Lib.hid (idR_yes hE (by rw [hL]; exact h32))
      rw [hL] at HI
      have H32 := Lib.hid h32
      clear hL hE h32
      go_enter Tryd.func20, Tryd.ntmps20
      go_wp2_with (refine wpList_alloc_zero rfl _ rfl (idA zid) zero_id ?_; intro w0 hg0 hb0 hz0)
      refine (HU.out _).mono ?_
      rintro e w2 ⟨A, n, c, rfl, ho2, hbl2⟩
      have hg2 := (hbl2.block w.heap.size (by omega)).trans hg0
      have hb2 := hb0.trans (hbl2.mono hb0.size)
      obtain rfl : 32 = n := by rw [← H32.out]; exact ho2.lenb
      rcases A with _ | ad
      · have := ho2.rd.nil rfl
        have := ho2.rd.le
        omega
      have harr := run_arr_id ad c
      have hld := load_id ho2.rd
      clear hz0 ho2 hg0 hb0 hbl2
      go_wp2_with (first
        | (refine wpList_load_run rfl _ _ rfl ad rfl _ hld ?_)
        | (refine wpList_store_all rfl _ _ _ rfl w.heap.size rfl _ _ _ (by rfl) hg2 (size_id H32.out) (idA_same zid_len H32.out) idA_one ?_; intro w1 hg1 hgr1 hz1))
      refine bodyPost_ret (results_cell_tmp rfl _ _ w.heap.size _ _ _ _ rfl hg1 Tryd.underlying37 rfl (size_id H32.out) _ rfl) rfl ?_
      rw [HI.out]
      exact ⟨rfl, hb2.grown hgr1 hb2.size (fun g hg => by injection hg with hg; omega)⟩
    · have HI := Lib.hid (idR_size hE (by rw [hL]; exact h32))
      have h32' : (((L.length : Nat) : Int) != 32) = true := by
        simp
        omega
      clear hL hE h32
      go_enter Tryd.func20, Tryd.ntmps20
      go_wp2_with (refine wpList_alloc_zero rfl _ rfl (idA zid) zero_id ?_; intro w0 hg0 hb0 hz0)
      refine (HU.out _).mono ?_
      rintro e w2 ⟨A, n, c, rfl, ho2, hbl2⟩
      have hg2 := (hbl2.block w.heap.size (by omega)).trans hg0
      have hb2 := hb0.trans (hbl2.mono hb0.size)
      obtain rfl : L.length = n := ho2.lenb
      clear hz0 ho2 hg0 hb0 hbl2
      go_wp2_with (first
        | (refine wpList_build_run rfl _ _ rfl #[] (by rfl) _ (build_id0 _) ?_)
        | (refine wpList_store_all rfl _ _ _ rfl w.heap.size rfl _ _ _ (by rfl) hg2 (size_id zid_len) rfl idA_one ?_; intro w1 hg1 hgr1 hz1))
      refine bodyPost_ret (results_cell_tmp rfl _ _ w.heap.size _ _ _ _ rfl hg1 Tryd.underlying37 rfl (size_id zid_len) _ rfl) rfl ?_
      rw [HI.out]
      exact ⟨rfl, hb2.grown hgr1 hb2.size (fun g hg => by injection hg with hg; omega)⟩
  · have HI := Lib.hid (idR_no (s := s) (by rw [hE]; exact h0))
    rw [hE] at HI
    have h0' : (E != 0) = true := by simpa using h0
    clear hL hE h0
    go_enter Tryd.func20, Tryd.ntmps20
    go_wp2_with (refine wpList_alloc_zero rfl _ rfl (idA zid) zero_id ?_; intro w0 hg0 hb0 hz0)
    refine (HU.out _).mono ?_
    rintro e w2 ⟨A, n, c, rfl, ho2, hbl2⟩
    have hg2 := (hbl2.block w.heap.size (by omega)).trans hg0
    have hb2 := hb0.trans (hbl2.mono hb0.size)
    clear hz0 ho2 hg0 hb0 hbl2
    go_wp2_with (first
      | (refine wpList_build_run rfl _ _ rfl #[] (by rfl) _ (build_id0 _) ?_)
      | (refine wpList_store_all rfl _ _ _ rfl w.heap.size rfl _ _ _ (by rfl) hg2 (size_id zid_len) rfl idA_one ?_; intro w1 hg1 hgr1 hz1))
    refine bodyPost_ret (results_cell_tmp rfl _ _ w.heap.size _ _ _ _ rfl hg1 Tryd.underlying37 rfl (size_id zid_len) _ rfl) rfl ?_
    rw [HI.out]
    exact ⟨rfl, hb2.grown hgr1 hb2.size (fun g hg => by injection hg with hg; omega)⟩

end Go.Proofs.YtalbnmekejmnmaaDoor
