/-
  The law ReplyBack.
-/
import Derived.Test.YtogkmlodcdgegaaDoorReP
import Derived.Test.YtogkmlodcdgegaaDoorPlace
namespace Go.Proofs.YtogkmlodcdgegaaDoor
open Go.RowKit

theorem run_take : ∀ (l : List UInt8) (j : Nat), runL (l.take j) ≤ runL l
  | [], j => by simp
  | x :: l, 0 => by simp [runL]
  | x :: l, j + 1 => by
    rw [List.take_succ_cons, runL, runL]
    split
    · have := run_take l j
      omega
    · exact Nat.le_refl _
set_option maxRecDepth 20000 in
set_option maxHeartbeats 16000000 in
theorem replyBack_walk {w : World} (ht : Tab w) (wh : Int) (wh0 : -9223372036854775808 ≤ wh) (wh1 : wh ≤ 9223372036854775807) (A : Option Addr) (n c : Nat) (l : List UInt8) (h : Rd w 1 A n c (l.map b8)) (b : Bool)
    (B : Option Addr) (m d : Nat) (r : List UInt8) (h' : Rd w 1 B m d (r.map b8)) (cu : Int) (cu0 : -9223372036854775808 ≤ cu) (cu1 : cu ≤ 9223372036854775807) :
    Calls Tryd.prog 5 #[.int .i64 wh, .slice A n c, .bool b, .slice B m d, .int .i64 cu] w fun e w' => e = .returned (.bool true) ∧ Below w.heap.size w w' := by
  have HB := Lib.hid (begun_any w ht)
  have HT := Lib.hid (fun W (hb : Below w.heap.size w W) => ht.below hb)
  have HH := Lib.hid h
  have HH2 := Lib.hid h'
  have HLN := Lib.hid h.lenb
  have HLM := Lib.hid h'.lenb
  have HPW := Lib.hid (fun W => Place_any wh 11 W wh0 wh1 (by omega))
  have hpw := placeP_lt wh 11 (by omega)
  obtain ⟨K, hK⟩ : ∃ K, placeP wh 11 = K := ⟨_, rfl⟩
  rw [hK] at HPW hpw
  have HPC := Lib.hid (fun q (hq : q ≤ 1152921504606846976) W => Place_any cu q W cu0 cu1 hq)
  clear h h' ht wh0 wh1 cu0 cu1 hK
  by_cases q1 : (4096 : Int) < n
  · go_enter Tryd.func5, Tryd.ntmps5
    go_wp2_with fail
    refine HB.out.mono ?_
    rintro e w1 ⟨rfl, hb1⟩
    go_wp2_with fail
    go_ret
    exact ⟨rfl, hb1⟩
  have q1' : decide ((4096 : Int) < n) = false := decide_eq_false q1
  have n4 : n ≤ 4096 := by omega
  clear q1
  by_cases q2 : (4096 : Int) < m
  · go_enter Tryd.func5, Tryd.ntmps5
    go_wp2_with fail
    refine HB.out.mono ?_
    rintro e w1 ⟨rfl, hb1⟩
    go_wp2_with fail
    go_ret
    exact ⟨rfl, hb1⟩
  have q2' : decide ((4096 : Int) < m) = false := decide_eq_false q2
  have m4 : m ≤ 4096 := by omega
  clear q2
  have hst : isSt (stI K) := (stI_at ⟨K, hpw⟩).2
  obtain ⟨v, hv⟩ : ∃ v, stI K = v := ⟨_, rfl⟩
  rw [hv] at hst
  have HV := Lib.hid hv
  have hbe := bytesR_err (l := l) (c := b) hst
  have htb := take_back hst l (by rw [HLN.out]; omega) b r
  have htc := take_cut hst l (by rw [HLN.out]; omega) b
  have hbl : (bytesR v l b).1.length ≤ 5000 := by
    have h1 := headL_len hst
    have h2 := itoa_len l.length (by rw [HLN.out]; omega)
    have h3 : (tailL b).length ≤ 23 := by cases b <;> decide
    have hb : bytesR v l b = (headL v ++ Lib.itoa (l.length : Int) ++ tailL b ++ l, 0) := if_pos hst
    rw [hb]
    simp only [List.length_append]
    rw [HLN.out] at h2 ⊢
    omega
  have hpos : 0 < (bytesR v l b).1.length := by
    have hb : bytesR v l b = (headL v ++ Lib.itoa (l.length : Int) ++ tailL b ++ l, 0) := if_pos hst
    rw [hb]
    unfold headL
    simp only [List.length_append, List.length_cons]
    omega
  have HRN : Hid (∀ x : List UInt8, ∀ u, isSt u → Lib.hasPrefix ((bytesR v l b).1 ++ x) (headL u) = true → runL (((bytesR v l b).1 ++ x).drop (headL u).length) ≤ 4096) := by
    show ∀ x, _
    intro x u hu hp
    have hb : bytesR v l b = (headL v ++ Lib.itoa (l.length : Int) ++ tailL b ++ l, 0) := if_pos hst
    have hp1 := (hp_iff _ _).1 hp
    have hp2 : headL v <+: (bytesR v l b).1 ++ x := by
      rw [hb]
      simp only [List.append_assoc]
      exact List.prefix_append _ _
    obtain ⟨i, rfl⟩ := st_fin hst
    obtain ⟨j, rfl⟩ := st_fin hu
    have hij : j = i := by
      by_cases hne : j = i
      · exact hne
      · have := begB_no.1 (others hp2 hne)
        exact absurd hp1 this.1
    subst hij
    obtain ⟨hd, _, _⟩ := itoa_dig l.length
    have e : (bytesR (stI j.1) l b).1 ++ x = headL (stI j.1) ++ (Lib.itoa (l.length : Int) ++ (tailL b ++ (l ++ x))) := by rw [hb]; simp only [List.append_assoc]
    rw [e, List.drop_left, runL_all _ hd _ (tail_head b _)]
    have := itoa_len l.length (by rw [HLN.out]; omega)
    omega
  have HRT : Hid (∀ u, isSt u → Lib.hasPrefix ((bytesR v l b).1.take (placeP cu (bytesR v l b).1.length)) (headL u) = true → runL (((bytesR v l b).1.take (placeP cu (bytesR v l b).1.length)).drop (headL u).length) ≤ 4096) := by
    show ∀ u, _
    intro u hu hp
    have hp1 := (hp_iff _ _).1 hp
    have hp2 : headL u <+: (bytesR v l b).1 ++ [] := by
      rw [List.append_nil]
      exact hp1.trans (List.take_prefix _ _)
    have := HRN.out [] u hu ((hp_iff _ _).2 hp2)
    rw [List.append_nil] at this
    rw [List.drop_take]
    exact Nat.le_trans (run_take _ _) this
  obtain ⟨XB, hXB⟩ : ∃ XB, (bytesR v l b).1 = XB := ⟨_, rfl⟩
  have HBY := Lib.hid (fun W hb => Bytes_any (w := W) (HH.out.below hb) (by omega) v b (HT.out W hb))
  rw [hXB] at htb htc hbl hpos HRN HBY HRT
  rw [hbe] at HBY
  obtain ⟨NB, hNB⟩ : ∃ NB, XB.length = NB := ⟨_, rfl⟩
  have HNB := Lib.hid hNB
  rw [hNB] at htb htc hbl hpos HRT
  have hpl := placeP_lt cu NB (by omega)
  have HPL := Lib.hid (HPC.out NB (by omega))
  obtain ⟨p, hp⟩ : ∃ p, placeP cu NB = p := ⟨_, rfl⟩
  rw [hp] at hpl HPL HRT
  have htc2 := htc p hpl
  have HTB := Lib.hid htb
  have HTC := Lib.hid htc2
  have hK' : (K : Int) < 11 := by omega
  have hK0 : (0 : Int) ≤ K := by omega
  have hi1 := idx11
  have HI1 := Lib.hid (fun g W => idx11 g K hpw W)
  have HST : Hid (stsA[K]? = some (.int .i64 (stI K))) := (stI_at ⟨K, hpw⟩).1
  have hpI : (p : Int) < NB := by omega
  clear hi1 hXB hNB htb htc htc2 hp hv hst hbe HPC hpw
  go_enter Tryd.func5, Tryd.ntmps5
  go_wp2_with fail
  refine HB.out.mono ?_
  rintro e w1 ⟨rfl, hb1⟩
  go_wp2_with fail
  refine (Statuses_any _).mono ?_
  rintro e w2 ⟨rfl, hb2⟩
  have hb2' := hb1.trans (hb2.mono hb1.size)
  clear hb2
  unfold stsA
  go_wp2_with fail
  obtain ⟨w3, hw3⟩ : ∃ w3, w2.alloc (.cells stsA 37) = w3 := ⟨_, rfl⟩
  have hS3 : w3.heap[w2.heap.size]? = some (.cells stsA 37 (0, 0)) := by rw [← hw3]; exact heap_new _ _
  have hb3 : Below w.heap.size w w3 := by rw [← hw3]; exact hb2'.alloc hb2'.size _
  have hlt3 : w2.heap.size < w3.heap.size := by rw [← hw3]; simp
  have c1 : w3.cell? ⟨w2.heap.size, K, none⟩ = some (.int .i64 v) := by
    rw [← HV.out]
    exact cell_of hS3 HST.out
  unfold stsA at hw3
  rw [hw3]
  have hi1 := HI1.out w2.heap.size
  clear hw3 hS3 hb2'
  refine (HPW.out _).mono ?_
  rintro e w4 ⟨rfl, rfl⟩
  go_wp2_with (first
    | (refine wpList_alloc_zero rfl _ rfl rpZ zero_rp ?_; intro w4 hg4 hb4 hz4)
    | (refine wpList_store_all rfl _ _ _ rfl w3.heap.size rfl _ rpZ (rpA v A n c b) rfl hg4 (size_rp' _ _ _ _ _) rfl (rp_one _ _ _ _ _) ?_; intro w5 hg5 hgr5 hz5; have hld5 := Lib.hid hg5)
    | (refine wpList_load_all rfl _ _ rfl w3.heap.size rfl _ (rpA v A n c b) _ _ hld5.out Tryd.underlying24 rfl (size_rp' _ _ _ _ _) ?_))
  have hb35 : Below w3.heap.size w3 w5 := hb4.grown hgr5 (by omega) (fun g hg => by obtain rfl := Option.some.inj hg; exact Nat.le_refl _)
  have hb5 := hb3.trans (hb35.mono hb3.size)
  have hlt5 : w3.heap.size < w5.heap.size := by omega
  clear hi1 c1 hz4 hz5 hg4 hb4 hgr5 hg5
  refine (HBY.out _ hb5).mono ?_
  rintro e w6 ⟨A6, n6, c6, rfl, ho6, hbl6⟩
  obtain rfl : NB = n6 := HNB.out.symm.trans ho6.lenb
  have hb6 := hb5.trans (hbl6.mono hb5.size)
  have hG6 := (hbl6.block _ hlt5).trans hld5.out
  have hlt6 : w3.heap.size < w6.heap.size := by have := hbl6.size; omega
  have HR6 := Lib.hid (HH2.out.below hb6)
  have hs6 := hb6.size
  clear hbl6 hld5 hlt5
  go_wp2_with (first
    | (at_builtin; refine wpList_app rfl _ _ rfl eb (Own.lit _ w6.heap.size [] _ 0 rfl (by decide) (Nat.le_refl _)) rfl (ho6.rd.alloc _) rfl (b8_one _) (by omega) (by unfold maxLen; omega) (by simp) ?_; intro A7 c7 w7 ho7 hg7 hq7; rw [Nat.zero_add, List.nil_append] at ho7; have hb67 := ((Below.refl w6.heap.size w6).alloc (Nat.le_refl _) _).grown hg7 (by simp) (by intro g hg; simp [blk] at hg; omega))
    | (at_builtin; refine wpList_app rfl _ _ rfl eb ho7 rfl (HR6.out.below hb67) rfl (b8_one _) (by omega) (by unfold maxLen; omega) hb67.size ?_; intro A8 c8 w8 ho8 hg8 hq8; rw [← List.map_append] at ho8; have hb68 := hb67.grown hg8 hb67.size (fun g hg => (ho7.lt g hg).1)))
  have hb8 := hb6.trans (hb68.mono hb6.size)
  have hG8 := (hb68.block _ hlt6).trans hG6
  have ho68 := ho6.below hb68
  have hlt8 : w3.heap.size < w8.heap.size := by have := hb68.size; omega
  have hlen8 := ho8.lenb
  have HTK := Lib.hid (Take_any ho8.rd (by omega) (HRN.out r) (HT.out _ hb8))
  rw [HTB.out] at HTK
  have hs36 : w3.heap.size ≤ w6.heap.size := by omega
  clear hg7 hq7 hg8 hq8 ho7 hb67 hG6 ho6 HR6 hlen8 hb6 hlt6
  refine HTK.out.mono ?_
  rintro e w9 ⟨A9, n9, c9, rfl, ho9, hbl9⟩
  go_wp2_with (first
    | (refine wpList_alloc_zero rfl _ rfl rpZ zero_rp ?_; intro w10 hg10 hb10 hz10)
    | (refine wpList_store_all rfl _ _ _ rfl w9.heap.size rfl _ rpZ _ rfl hg10 (size_rp' _ _ _ _ _) rfl (rp_one _ _ _ _ _) ?_; intro w11 hg11 hgr11 hz11))
  have hb911 : Below w9.heap.size w9 w11 := hb10.grown hgr11 (by omega) (fun g hg => by obtain rfl := Option.some.inj hg; exact Nat.le_refl _)
  have hb8_11 := hbl9.trans (hb911.mono hbl9.size)
  have hb11 := hb8.trans (hb8_11.mono hb8.size)
  have hG11 := (hb8_11.block _ hlt8).trans hG8
  have ho6_11 := ho68.below hb8_11
  have ho9_11 := ho9.below hb911
  have hlt11 : w9.heap.size < w11.heap.size := by omega
  have hs9 : w3.heap.size < w9.heap.size := Nat.lt_of_lt_of_le hlt8 hbl9.size
  have hle6 := ho6_11.rd.le
  have hsl := run_slice_h_rd (P := Tryd.prog) (A := A6) (n := NB) (c := c6) eb (kh := .i64) p (H := (p : Int)) rfl (by omega)
  have HTK2 := Lib.hid (Take_any (ho6_11.rd.take_ (k := p) (by omega)) (by omega) (HRT.out) (HT.out _ hb11))
  rw [HTC.out] at HTK2
  clear hz10 hz11 hg10 hb10 hgr11 HTK hbl9 hle6
  refine (HPL.out _).mono ?_
  rintro e w12 ⟨rfl, rfl⟩
  go_wp2_with fail
  refine HTK2.out.mono ?_
  rintro e w12 ⟨A12, n12, c12, rfl, ho12, hbl12⟩
  go_wp2_with (first
    | (refine wpList_alloc_zero rfl _ rfl rpZ zero_rp ?_; intro w13 hg13 hb13 hz13)
    | (refine wpList_store_all rfl _ _ _ rfl w12.heap.size rfl _ rpZ _ rfl hg13 (size_rp' _ _ _ _ _) rfl (rp_one _ _ _ _ _) ?_; intro w14 hg14 hgr14 hz14; have hbx : Below w12.heap.size w12 w14 := (hb13.grown hgr14 (by omega) (fun g hg => by obtain rfl := Option.some.inj hg; exact Nat.le_refl _)); have hby := hbl12.trans (hbx.mono hbl12.size); have hb14 := hb11.trans (hby.mono hb11.size); obtain ⟨_, a0, a1, a2⟩ := rp_0 hG11 (hby.block _ (by omega)); obtain ⟨_, e0, e1, e2⟩ := rp_0 hg11 (hby.block _ hlt11); have s9 := str_rd (ho9_11.below hby).rd; have sA := str_rd (HH.out.below hb14); have HB14 := Lib.hid hb14; clear hz13 hz14 hg13 hb13 hgr14 hg14 hbx hby hb14 hG11 hg11))
  go_ret
  exact ⟨rfl, HB14.out⟩

end Go.Proofs.YtogkmlodcdgegaaDoor
