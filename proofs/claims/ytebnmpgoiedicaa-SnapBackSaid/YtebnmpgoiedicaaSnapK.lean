/-
  The law SnapBack: the walk.
-/
import Derived.Test.YtebnmpgoiedicaaSnapJ
namespace Go.Proofs.Ytebnmpgoiedicaa
open Go.RowKit

theorem byte_cell (v : Int) (h0 : 0 ≤ v) (h1 : v ≤ 255) : [Value.int .u8 v] = [UInt8.ofNat v.toNat].map b8 := by
  rw [List.map_cons, List.map_nil, b8_ofNat]
  congr 2
  omega

set_option maxRecDepth 20000 in
set_option maxHeartbeats 16000000 in
theorem snapBack_walk {w : World} (R : List UInt8) (t : Int) (s : ByteArray) (hR : R.length = 32) (ht0 : -9223372036854775808 ≤ t) (ht1 : t ≤ 9223372036854775807) (hs : s.size ≤ maxLen) (k : Int) (hk0 : -9223372036854775808 ≤ k) (hk1 : k ≤ 9223372036854775807) (v : Int) (hv0 : 0 ≤ v) (hv1 : v ≤ 255) :
    Calls Try.prog 5 #[.agg (mC R t s), .int .i64 k, .int .u8 v] w fun e w' => e = .returned (.bool true) ∧ Below w.heap.size w w' := by
  unfold maxLen at hs
  have HSZ := Lib.hid (size_man (t := t) (s := s) hR)
  by_cases hb : (1024 : Int) < s.size
  · go_enter Try.func5, Try.ntmps5
    go_wp2_with (first
      | (refine wpList_box rfl _ _ rfl (mC R t s) rfl ?_; intro w0 hg0 hb0 hz0; have hm0 : Man w0 w.heap.size R t s := ⟨hR, hg0⟩)
      | (go_at_call 6; refine (begun_any _).mono ?_; rintro e w1 ⟨rfl, hbl1⟩; have hm1 := hm0.below hbl1; have q1 := hm1.label))
    go_ret
    exact ⟨rfl, hb0.trans (hbl1.mono hb0.size)⟩
  have hs2 : s.size ≤ 1024 := by omega
  have hs3 : (s.size : Int) ≤ 1024 := by omega
  clear hb
  have HB := Lib.hid (fun W => Bytes_any R t s hR W (by omega) ht0 ht1)
  by_cases hmb : mayB t s = true
  · obtain ⟨b, hCE, hbl, hs64, hT1, hT2, hT3⟩ := bytes_ok hR ht1 hmb
    rw [hCE] at HB
    have hb107 : b.length ≤ 107 := by omega
    have hb1 : 1 ≤ b.length := by omega
    obtain ⟨p, hp⟩ : ∃ p, placeP k b.length = p := ⟨_, rfl⟩
    have hpl := placeP_lt k b.length hb1
    have HPl := Lib.hid (fun W => Place_any k b.length W hk0 hk1 (by omega))
    rw [hp] at hpl HPl
    have HT1 := Lib.hid hT1
    have HT2 := Lib.hid (hT2 p hpl)
    have HT3 := Lib.hid (hT3 (UInt8.ofNat v.toNat))
    have HV := Lib.hid (byte_cell v hv0 hv1)
    have HZ := Lib.hid (mZ_size.trans (mC_size (t := t) (s := s) hR).symm)
    obtain ⟨nb, hnb⟩ : ∃ nb, b.length = nb := ⟨_, rfl⟩
    rw [hnb] at hb107 hb1 hpl HPl
    have HNB := Lib.hid hnb
    clear hCE hbl hs64 hT1 hT2 hT3 hmb hp hnb
    go_enter Try.func5, Try.ntmps5
    go_wp2_with (first
      | (refine wpList_box rfl _ _ rfl (mC R t s) rfl ?_; intro w0 hg0 hb0 hz0; have hm0 : Man w0 w.heap.size R t s := ⟨hR, hg0⟩)
      | (go_at_call 6; refine (begun_any _).mono ?_; rintro e w1 ⟨rfl, hbl1⟩; have hm1 := hm0.below hbl1; have q1 := hm1.label)
      | (refine wpList_load_all (by rfl) _ _ rfl w.heap.size rfl _ _ _ _ hm1.obj Try.underlying25 rfl HSZ.out ?_))
    have hB1 := hb0.trans (hbl1.mono hb0.size)
    refine (HB.out _).mono ?_
    rintro e w2 ⟨A2, n2, c2, rfl, ho2, hbl2⟩
    obtain rfl : n2 = nb := by
      have := ho2.lenb
      have := HNB.out
      omega
    have hB2 := hB1.trans (hbl2.mono hB1.size)
    have hm2 := hm1.below hbl2
    clear hm0 hg0 hb0 hbl1 q1
    go_wp2_with fail
    refine (Take_any A2 n2 c2 b _ ho2.rd (by omega)).mono ?_
    rintro e w3 ⟨rfl, hbl3⟩
    rw [HT1.out]
    have hm3 := hm2.below hbl3
    have hB3 := hB2.trans (hbl3.mono hB2.size)
    have ho3 := ho2.below hbl3
    have hsl := run_slice_h_rd (P := Try.prog) (A := A2) (n := n2) (c := c2) eb (kh := .i64) p (H := (p : Int)) rfl (by have := ho2.rd.le; omega)
    go_wp2_with (first
      | (refine wpList_alloc_zero rfl _ rfl mZ zero_man ?_; intro w4 hg4 hb4 hz4)
      | (refine wpList_store_all rfl _ _ _ rfl w3.heap.size rfl _ _ (mC R t s) rfl hg4 HSZ.out HZ.out mC_one ?_; intro w5 hg5 hgr5 hz5; have hb35 : Below w3.heap.size w3 w5 := hb4.grown hgr5 hb4.size (fun g hg => by injection hg with hg; omega))
      | (go_at_call 16; refine (HPl.out _).mono ?_; rintro e w6 ⟨rfl, rfl⟩))
    have hm5 := hm3.below hb35
    have hB5 := hB3.trans (hb35.mono hB3.size)
    have ho5 := ho3.below hb35
    have hm9 : Man w5 w3.heap.size R t s := ⟨hR, hg5⟩
    clear hz5 hz4 hg4 hb4 hgr5 hg5 hsl
    refine (Take_any A2 p c2 (b.take p) _ (ho5.rd.take_ (k := p) (by omega)) (by omega)).mono ?_
    rintro e w6 ⟨rfl, hbl6⟩
    rw [HT2.out]
    have hm6 := hm5.below hbl6
    have hm96 := hm9.below hbl6
    have hB6 := hB5.trans (hbl6.mono hB5.size)
    have ho6 := ho5.below hbl6
    clear hm5 hm9 ho5
    go_wp2_with (first
      | (refine wpList_alloc_zero rfl _ rfl mZ zero_man ?_; intro w7 hg7 hb7 hz7)
      | (refine wpList_store_all rfl _ _ _ rfl w6.heap.size rfl _ _ mZ rfl hg7 size_z rfl mZ_one ?_; intro w8 hg8 hgr8 hz8; have hb68 : Below w6.heap.size w6 w8 := hb7.grown hgr8 hb7.size (fun g hg => by injection hg with hg; omega); have ho8 := ho6.below hb68; clear hz8 hz7)
      | (at_builtin; refine wpList_app rfl _ _ rfl eb (Own.lit _ w8.heap.size [] _ 0 rfl (by decide) (Nat.le_refl _)) rfl (ho8.rd.alloc _) rfl (b8_one _) (by omega) (by unfold maxLen; omega) (by simp) ?_; intro A9 c9 w9 ho9 hg9 hq9; rw [Nat.zero_add, List.nil_append] at ho9; have hb89 := ((Below.refl w8.heap.size w8).alloc (Nat.le_refl _) _).grown hg9 (by simp) (by intro g hg; simp [blk] at hg; omega))
      | (at_builtin; refine wpList_app rfl _ _ rfl eb (ho9.alloc _) rfl (Rd.lit _ [_] _ 1 rfl (by unfold maxLen; omega)) rfl (by simp [Value.oneCell']) (by omega) (by unfold maxLen; omega) (by have := hb89.size; simp; omega) ?_; intro A10 c10 w10 ho10 hg10 hq10; rw [HV.out, ← List.map_append] at ho10; have hb810 := (hb89.alloc hb89.size _).grown hg10 (hb89.alloc hb89.size _).size (fun g hg => (ho9.lt g hg).1)))
    have hm8 := hm6.below hb68
    have hm98 := hm96.below hb68
    have hB8 := hB6.trans (hb68.mono hB6.size)
    have hm10 := hm8.below hb810
    have hm910 := hm98.below hb810
    have hB10 := hB8.trans (hb810.mono hB8.size)
    clear hg7 hb7 hg8 hgr8 hg9 hq9 hg10 hq10 hm6 hm96
    refine (Take_any A10 (n2 + 1) c10 _ _ ho10.rd (by omega)).mono ?_
    rintro e w11 ⟨rfl, hbl11⟩
    rw [HT3.out]
    have hm11 := hm10.below hbl11
    have hm911 := hm910.below hbl11
    have hB11 := hB10.trans (hbl11.mono hB10.size)
    go_wp2_with (first
      | (refine wpList_alloc_zero rfl _ rfl mZ zero_man ?_; intro w12 hg12 hb12 hz12)
      | (refine wpList_store_all rfl _ _ _ rfl w11.heap.size rfl _ _ mZ rfl hg12 size_z rfl mZ_one ?_; intro w13 hg13 hgr13 hz13; have hb1113 : Below w11.heap.size w11 w13 := hb12.grown hgr13 hb12.size (fun g hg => by injection hg with hg; omega); have hm13 := hm11.below hb1113; have hm913 := hm911.below hb1113)
      | (refine wpList_load_all (by rfl) _ _ rfl w3.heap.size rfl _ _ _ _ hm913.obj Try.underlying25 rfl HSZ.out ?_)
      | (refine wpList_load_all (by rfl) _ _ rfl w.heap.size rfl _ _ _ _ hm13.obj Try.underlying25 rfl HSZ.out ?_)
      | (refine wpList_eql_man (by rfl) _ _ rfl hR rfl rfl ?_))
    go_ret
    exact ⟨rfl, hB11.trans (hb1113.mono hB11.size)⟩
  · have hCE : bytesP R t s = ([], 1) := if_neg hmb
    have hmb' : mayB t s = false := by simpa using hmb
    rw [hCE] at HB
    have HM := Lib.hid (fun W => May_any R t s hR W (by omega))
    rw [hmb'] at HM
    clear hCE hmb hmb'
    go_enter Try.func5, Try.ntmps5
    go_wp2_with (first
      | (refine wpList_box rfl _ _ rfl (mC R t s) rfl ?_; intro w0 hg0 hb0 hz0; have hm0 : Man w0 w.heap.size R t s := ⟨hR, hg0⟩)
      | (go_at_call 6; refine (begun_any _).mono ?_; rintro e w1 ⟨rfl, hbl1⟩; have hm1 := hm0.below hbl1; have q1 := hm1.label)
      | (refine wpList_load_all (by rfl) _ _ rfl w.heap.size rfl _ _ _ _ hm1.obj Try.underlying25 rfl HSZ.out ?_)
      | (go_at_call 7; refine (HB.out _).mono ?_; rintro e w2 ⟨A2, n2, c2, rfl, ho2, hbl2⟩; obtain rfl : 0 = n2 := ho2.lenb; have hm2 := hm1.below hbl2)
      | (refine wpList_load_all (by rfl) _ _ rfl w.heap.size rfl _ _ _ _ hm2.obj Try.underlying25 rfl HSZ.out ?_)
      | (go_at_call 9; refine (HM.out _).mono ?_; rintro e w3 ⟨rfl, hbl3⟩))
    go_ret
    have hB1 := hb0.trans (hbl1.mono hb0.size)
    have hB2 := hB1.trans (hbl2.mono hB1.size)
    exact ⟨rfl, hB2.trans (hbl3.mono hB2.size)⟩

end Go.Proofs.Ytebnmpgoiedicaa
