/-
  The document's Bytes.
-/
import Derived.Test.YtebnmpgoiedicaaSnapB
namespace Go.Proofs.Ytebnmpgoiedicaa
open Go.RowKit

theorem REight_any (v : Int) (w : World) (hv0 : 0 ≤ v) (hv1 : v ≤ 18446744073709551615) :
    Calls Try.prog 19 #[.int .u64 v] w fun e w' => ∃ A n c, e = .returned (.slice A n c) ∧ Own w' w.heap.size 5 1 A n c ((putB v.toNat 8).map b8) ∧ Below w.heap.size w w' := by
  have HP := Lib.hid (put8 [] v)
  go_enter Try.func19, Try.ntmps19
  go_wp2_with fail
  refine (RPut_any none 0 0 [] v 8 _ (Rd.nil_ _ 1) (by omega) hv0 hv1).mono ?_
  rintro e w1 ⟨A1, n1, c1, rfl, ho1, hbl1⟩
  rw [HP.out] at ho1 ⊢
  go_wp2_with fail
  go_ret
  exact ⟨A1, n1, c1, rfl, ho1, hbl1⟩

theorem small_cell (n : Nat) (h : n ≤ 64) : [Value.int .u8 (n : Int)] = (countB n).map b8 := by
  rw [countB_small n (by omega), List.map_cons, List.map_nil, b8_ofNat, Nat.mod_eq_of_lt (by omega)]

set_option maxRecDepth 20000 in
set_option maxHeartbeats 2000000 in
theorem RBytes_any (R : List UInt8) (t : Int) (s : ByteArray) (hR : R.length = 32) (w : World) (hs : s.size ≤ 1048576) (ht0 : -9223372036854775808 ≤ t) (ht1 : t ≤ 9223372036854775807) :
    Calls Try.prog 8 #[.agg (mC R t s)] w fun e w' => ∃ A n c, e = .returned (.tuple #[.slice A n c, .int .i64 (bytesP R t s).2]) ∧ Own w' w.heap.size 5 1 A n c ((bytesP R t s).1.map b8) ∧ Below w.heap.size w w' := by
  have hm := Man.new (t := t) (s := s) w hR
  have h1 := hm.time
  have h2 := hm.label
  have h3 := mC_time (t := t) (s := s) hR
  have h4 := mC_label (t := t) (s := s) hR
  have hsz := Lib.hid (size_man (t := t) (s := s) hR)
  have hb := (Below.refl w.heap.size w).alloc (Nat.le_refl _) (.cells (mC R t s) 25)
  have hM := Lib.hid (fun W => RMay_any R t s hR W (by omega))
  by_cases hmay : mayB t s = true
  · have HB : Hid (bytesP R t s = _) := if_pos hmay
    have ht2 := Lib.hid (may_time hmay)
    have hs64 := may_size hmay
    rw [hmay] at hM
    clear hmay
    go_enter Try.func8, Try.ntmps8
    go_wp2_with (refine wpList_load_row rfl _ _ rfl w.heap.size rfl _ _ _ _ hm.obj Try.underlying25 rfl hsz.out ?_)
    refine (hM.out _).mono ?_
    rintro e w1 ⟨rfl, hbl1⟩
    have hm1 := hm.below hbl1
    have r1 := hm1.time
    have r2 := hm1.label
    have hroot := hm1.root
    have hB1 := hb.trans (hbl1.mono hb.size)
    have hcv := fun (W : World) (C : Array Value) (n c : Nat) => Lib.run_convert_bytes_const (P := Try.prog) W 27 5 C n c Try.underlying27 Try.underlying5
    have hlit := Own.new (base := w1.heap.size) (e := 5) (size := 1) w1 #[.int .u8 83, .int .u8 49] (2, 3) 2 2 (([83, 49] : List UInt8).map b8) (Nat.le_refl _) (Nat.le_refl _) (by decide) (by decide) (by decide) (by simp [b8]) (fun j _ h => by omega)
    have HC := Lib.hid (small_cell s.size hs64)
    have ht : 0 ≤ t := ht2.out
    go_wp2_with (at_builtin; refine wpList_app rfl _ _ rfl eb hlit rfl (hroot.alloc _) rfl (b8_one _) (by omega) (by unfold maxLen; omega) (by simp) ?_; intro A2 c2 w2 ho2 hg2 hq2; rw [← List.map_append] at ho2; have hbl2 := ((Below.refl w1.heap.size w1).alloc (Nat.le_refl _) _).grown hg2 (by simp) (by intro g hg; simp [blk] at hg; omega); have hm2 := hm1.below hbl2; have p1 := hm2.time; have p2 := hm2.label)
    refine (REight_any t _ ht (by omega)).mono ?_
    rintro e w3 ⟨A3, n3, c3, rfl, ho3, hbl3⟩
    have hn3 : n3 = 8 := by
      have := ho3.lenb
      rw [putB_length] at this
      exact this.symm
    subst hn3
    have ho3' := ho2.below hbl3
    have hB3 := hbl2.trans (hbl3.mono hbl2.size)
    have hB13 := hB1.trans (hB3.mono hB1.size)
    clear h1 h2 h3 h4 r1 r2 p1 p2 hg2 hq2 ho2 hlit
    have hm3 := hm2.below hbl3
    go_wp2_with (first
      | (at_builtin; refine wpList_app rfl _ _ rfl eb ho3' rfl ho3.rd rfl (b8_one _) (by omega) (by unfold maxLen; omega) hB3.size ?_; intro A4 c4 w4 ho4 hg4 hq4; rw [← List.map_append] at ho4; have hB4 := below_own hB3 hg4 (fun g hg => (ho3'.lt g hg).1) hB3.size; have hm4 := hm1.below hB4; have q1 := hm4.time; have q2 := hm4.label; clear ho3' ho3 hg4 hq4)
      | (at_builtin; refine wpList_app rfl _ _ rfl eb (ho4.alloc _) rfl (Rd.lit _ [_] _ 1 rfl (by unfold maxLen; omega)) rfl (by simp [Value.oneCell']) (by omega) (by unfold maxLen; omega) (by have := hB4.size; simp; omega) ?_; intro A5 c5 w5 ho5 hg5 hq5; rw [HC.out, ← List.map_append] at ho5; have hB5 := below_own (hB4.alloc hB4.size _) hg5 (fun g hg => (ho4.lt g hg).1) (hB4.alloc hB4.size _).size; have hm5 := hm1.below hB5; have s1 := hm5.time; have s2 := hm5.label; clear q1 q2 ho4 hg5 hq5)
      | (at_builtin; refine wpList_app_str rfl _ _ rfl eb Try.underlying9 ho5 rfl s rfl (by omega) hB5.size ?_; intro A6 c6 w6 ho6 hg6 hq6; have hB6 := below_own hB5 hg6 (fun g hg => (ho5.lt g hg).1) hB5.size; clear s1 s2))
    go_ret2
    rw [HB.out]
    refine ⟨A6, _, c6, rfl, ?_, hB1.trans (hB6.mono hB1.size)⟩
    rw [List.map_append]
    exact ho6.mono hB1.size
  · have HB : Hid (bytesP R t s = _) := if_neg hmay
    have hmay' : mayB t s = false := by simpa using hmay
    rw [hmay'] at hM
    clear hmay hmay'
    go_enter Try.func8, Try.ntmps8
    go_wp2_with (refine wpList_load_row rfl _ _ rfl w.heap.size rfl _ _ _ _ hm.obj Try.underlying25 rfl hsz.out ?_)
    refine (hM.out _).mono ?_
    rintro e w1 ⟨rfl, hbl1⟩
    go_wp2_with fail
    go_ret2
    rw [HB.out]
    exact ⟨none, 0, 0, rfl, Own.nil_ _ _ _ _, hb.trans (hbl1.mono hb.size)⟩

end Go.Proofs.Ytebnmpgoiedicaa
