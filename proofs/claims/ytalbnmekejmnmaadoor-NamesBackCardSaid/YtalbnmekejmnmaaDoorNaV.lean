/-
  NamesBack.
-/
import Derived.Test.YtalbnmekejmnmaaDoorNaS
import Derived.Test.YtalbnmekejmnmaaDoorNaT
import Derived.Test.YtalbnmekejmnmaaDoorNaP
import Derived.Test.YtalbnmekejmnmaaDoorNaL
namespace Go.Proofs.YtalbnmekejmnmaaDoor
open Go.RowKit

theorem pair_hex (l : List UInt8) : pairL (hexL l) = l ∧ (∀ x ∈ hexL l, 0 ≤ halfI (x.toNat : Int)) ∧ (hexL l).length % 2 = 0 := by
  have h1 := unhex_hex l
  have h2 := unhexL_pair (hexL l)
  by_cases h : (∀ x ∈ hexL l, 0 ≤ halfI (x.toNat : Int)) ∧ (hexL l).length % 2 = 0
  · rw [if_pos h, h1] at h2
    exact ⟨(Option.some.inj h2).symm, h.1, h.2⟩
  · rw [if_neg h, h1] at h2
    cases h2
theorem uxR_hex (l : List UInt8) : uxR ⟨(hexL l).toArray⟩ = (l, 0) := by
  obtain ⟨h1, h2, h3⟩ := pair_hex l
  have hs : (⟨(hexL l).toArray⟩ : ByteArray).size = (hexL l).length := by simp [ByteArray.size]
  rw [uxR_yes]
  · show (pairL (hexL l), (0 : Int)) = _
    rw [h1]
  · refine ⟨fun k hk => ?_, by rw [hs]; exact h3⟩
    exact h2 _ (List.getElem_mem (l := hexL l) (n := k) (by rw [← hs]; exact hk))
theorem idR_hex (R : List UInt8) (h : R.length = 32) : idR ⟨(hexL R).toArray⟩ = (R, 0) := by
  have h1 := uxR_hex R
  rw [idR_yes (by rw [h1]) (by rw [h1]; exact h), h1]
theorem decL_log : ∀ (k v : Nat), v < 10 ^ (k + 1) → (decL v).length ≤ k + 1
  | 0, v, h => by rw [decL_small v (by simpa using h)]; simp
  | k + 1, v, h => by
    by_cases h10 : v < 10
    · rw [decL_small v h10]
      simp
    · rw [decL_big v (by omega), List.length_append]
      have := decL_log k (v / 10) (by rw [Nat.pow_succ] at h; omega)
      simp only [List.length_cons, List.length_nil]
      omega
theorem print_size (n : Int) (h0 : -9223372036854775808 ≤ n) (h1 : n ≤ 9223372036854775807) : ((printB n).size : Int) ≤ 4096 := by
  by_cases h : n < 0
  · rw [printB_neg h]
    have := decL_log 19 n.natAbs (by omega)
    simp only [ByteArray.size, List.size_toArray, List.length_cons]
    omega
  · obtain ⟨v, rfl⟩ := Int.eq_ofNat_of_zero_le (Int.not_lt.1 h)
    have e := printB_pos v
    have := decL_log 19 v (by omega)
    show ((printB (v : Int)).size : Int) ≤ 4096
    rw [e]
    simp only [ByteArray.size, List.size_toArray]
    omega
/-- A name that lies in a block of its own. -/
theorem id_rd {w : World} {g : Nat} {R : List UInt8} {t : TypeId} (hg : w.heap[g]? = some (.cells (idA R) t (0, 0))) (h : R.length = 32) : Rd w 1 (some ⟨g, 0, none⟩) 32 32 (R.map b8) :=
  ⟨by simp [h], Nat.le_refl _, by decide, (fun e => by cases e), fun j u hu => by
    rw [at_some]
    have : (⟨g, 0, none⟩ : Addr).add j = ⟨g, j, none⟩ := by unfold Addr.add; split <;> simp_all
    rw [this]
    simp only [World.cell?, hg]
    simpa [idA] using hu⟩
theorem blk_lt {w : World} {g : Nat} {o : Obj} (h : w.heap[g]? = some o) : g < w.heap.size := (Array.getElem?_eq_some_iff.1 h).1

set_option maxRecDepth 20000 in
set_option maxHeartbeats 4000000 in
theorem namesBack_walk {w : World} (ht : Tab w) (A : Option Addr) (n c : Nat) (l : List UInt8) (h : Rd w 1 A n c (l.map b8)) (R : List UInt8) (hR : R.length = 32) (v : Int) (hv0 : -9223372036854775808 ≤ v) (hv1 : v ≤ 9223372036854775807) :
    Calls Tryd.prog 7 #[.slice A n c, .agg (idA R), .int .i64 v] w fun e w' => e = .returned (.bool true) ∧ Below w.heap.size w w' := by
  have hln := h.lenb
  have HB := Lib.hid (fun W hb => begun_any W (ht.below (w' := W) hb))
  by_cases hs : (4096 : Int) < n
  · go_enter Tryd.func7, Tryd.ntmps7
    go_wp2_with (refine wpList_box rfl _ _ rfl (idA R) rfl ?_; intro w0 hg0 hb0 hz0)
    refine (HB.out _ hb0).mono ?_
    rintro e w1 ⟨rfl, hb1⟩
    go_wp2_with fail
    go_ret
    exact ⟨rfl, hb0.trans (hb1.mono hb0.size)⟩
  · have hs' : (n : Int) ≤ 4096 := by omega
    have HP := Lib.hid (fun W hW => Print_any v hv0 hv1 W hW)
    have HN := Lib.hid (Number_any (printB v) (print_size v hv0 hv1))
    have HU := Lib.hid (Unhex_any ⟨(hexL l).toArray⟩ (by simp only [ByteArray.size, List.size_toArray, hexL_length]; omega))
    rw [uxR_hex] at HU
    have HI := Lib.hid (ID_any ⟨(hexL R).toArray⟩ (by simp only [ByteArray.size, List.size_toArray, hexL_length]; omega))
    rw [idR_hex R hR] at HI
    dsimp only at HU HI
    have HT := Lib.hid (fun W hb => ht.below (w' := W) hb)
    have HR := Lib.hid hR
    have HV : Hid ((v < 0 ∧ numR (printB v) = (0, 4)) ∨ (0 ≤ v ∧ numR (printB v) = (v, 0))) := by
      show _ ∨ _
      by_cases h0 : v < 0
      · exact .inl ⟨h0, numR_print_neg v h0⟩
      · exact .inr ⟨by omega, numR_print v (by omega) hv1⟩
    clear hs hv0 hv1 hR ht
    go_enter Tryd.func7, Tryd.ntmps7
    go_wp2_with (refine wpList_box rfl _ _ rfl (idA R) rfl ?_; intro w0 hg0 hb0 hz0)
    refine (HB.out _ hb0).mono ?_
    rintro e w1 ⟨rfl, hbl1⟩
    have hb1 := hb0.trans (hbl1.mono hb0.size)
    have hg1 := (hbl1.block _ (blk_lt hg0)).trans hg0
    have h1 := h.below hb1
    clear hz0 hg0 hb0 hbl1
    go_wp2_with fail
    refine (Hex_any A n c l _ h1 (by omega)).mono ?_
    rintro e w2 ⟨rfl, hbl2⟩
    have hb2 := hb1.trans (hbl2.mono hb1.size)
    have hg2 := (hbl2.block _ (blk_lt hg1)).trans hg1
    have h2 := h1.below hbl2
    clear h1 hg1 hb1 hbl2
    go_wp2_with fail
    refine (HU.out _).mono ?_
    rintro e w3 ⟨Ax, nx, cx, rfl, hox, hbl3⟩
    have hb3 := hb2.trans (hbl3.mono hb2.size)
    have hg3 := (hbl3.block _ (blk_lt hg2)).trans hg2
    have h3 := h2.below hbl3
    have hx3 := hox.rd
    obtain rfl : n = nx := hln.symm.trans hox.lenb
    clear h2 hg2 hb2 hbl3 hox
    go_wp2_with fail
    refine (Hex_any (some ⟨w.heap.size, 0, none⟩) 32 32 R _ (id_rd hg3 HR.out) (by omega)).mono ?_
    rintro e w4 ⟨rfl, hbl4⟩
    have hb4 := hb3.trans (hbl4.mono hb3.size)
    have hg4 := (hbl4.block _ (blk_lt hg3)).trans hg3
    have h4 := h3.below hbl4
    have hx4 := hx3.below hbl4
    clear h3 hg3 hb3 hbl4 hx3
    go_wp2_with fail
    refine (HI.out _).mono ?_
    rintro e w5 ⟨rfl, hbl5⟩
    have hb5 := hb4.trans (hbl5.mono hb4.size)
    have hg5 := (hbl5.block _ (blk_lt hg4)).trans hg4
    have h5 := h4.below hbl5
    have hx5 := hx4.below hbl5
    clear h4 hg4 hb4 hbl5 hx4
    go_wp2_with (first
      | (refine wpList_alloc_zero rfl _ rfl (idA zid) zero_id ?_; intro w6 hg6 hb6 hz6)
      | (refine wpList_store_all rfl _ _ _ rfl w5.heap.size rfl _ _ _ (by rfl) hg6 (size_id HR.out) (idA_same zid_len HR.out) idA_one ?_; intro w7 hg7 hgr7 hz7))
    have hb57 : Below w5.heap.size w5 w7 := hb6.grown hgr7 hb6.size (fun g hg => by injection hg with hg; omega)
    have hb7 := hb5.trans (hb57.mono hb5.size)
    have hk7 := (hb57.block _ (blk_lt hg5)).trans hg5
    have h7 := h5.below hb57
    have hx7 := hx5.below hb57
    have HT7 := Lib.hid (HT.out _ hb7)
    clear h5 hg5 hb5 hx5 hg6 hb6 hz6 hgr7 hz7 hb57
    refine (HP.out _ HT7.out).mono ?_
    rintro e w8 ⟨rfl, hbl8⟩
    have hb8 := hb7.trans (hbl8.mono hb7.size)
    have hk8 := (hbl8.block _ (blk_lt hk7)).trans hk7
    have hg8 := (hbl8.block _ (blk_lt hg7)).trans hg7
    have h8 := h7.below hbl8
    have hx8 := hx7.below hbl8
    clear h7 hk7 hg7 hb7 hbl8 hx7 HT7
    go_wp2_with fail
    refine (HN.out _).mono ?_
    rintro e w9 ⟨rfl, rfl⟩
    have hs1 := str_rd h8
    have hs2 := str_rd hx8
    rcases HV.out with ⟨hv, e⟩ | ⟨hv, e⟩
    all_goals
      rw [e]
      clear e
      go_wp2_with (first
        | (refine wpList_load_all (by rfl) _ _ rfl w5.heap.size rfl _ _ _ _ hg8 Tryd.underlying37 rfl (size_id HR.out) ?_)
        | (refine wpList_load_all (by rfl) _ _ rfl w.heap.size rfl _ _ _ _ hk8 Tryd.underlying37 rfl (size_id HR.out) ?_)
        | (refine wpList_eql_id (by rfl) _ _ rfl HR.out HR.out (by rfl) (by rfl) ?_; rw [beq_self_eq_true]))
      go_ret
      exact ⟨rfl, hb8⟩

end Go.Proofs.YtalbnmekejmnmaaDoor
