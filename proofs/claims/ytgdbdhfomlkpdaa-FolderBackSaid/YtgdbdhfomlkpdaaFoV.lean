/-
  FolderBack.
-/
import Derived.Test.YtgdbdhfomlkpdaaFoN
import Derived.Test.YtgdbdhfomlkpdaaFoT
import Derived.Test.YtgdbdhfomlkpdaaFoO
import Derived.Test.YtgdbdhfomlkpdaaPlace
namespace Go.Proofs.Ytgdbdhfomlkpdaa
open Go.RowKit

theorem byte_cell (v : Int) (h0 : 0 ≤ v) (h1 : v ≤ 255) : [Value.int .u8 v] = [UInt8.ofNat v.toNat].map b8 := by
  rw [List.map_cons, List.map_nil, b8_ofNat]
  congr 2
  omega
theorem decide_self (l : List It) : @decide (l = l) (Classical.propDecidable _) = true := @decide_eq_true _ (Classical.propDecidable _) rfl

set_option maxRecDepth 20000 in
set_option maxHeartbeats 1000000 in
theorem folderBack_walk {w : World} (A : Option Addr) (n c : Nat) (l : List It) (h : Its w A n c l) (k : Int) (hk0 : -9223372036854775808 ≤ k) (hk1 : k ≤ 9223372036854775807) (v : Int) (hv0 : 0 ≤ v) (hv1 : v ≤ 255) :
    Calls Try.prog 6 #[.slice A n c, .int .i64 k, .int .u8 v] w fun e w' => e = .returned (.bool true) ∧ Below w.heap.size w w' := by
  have HB := Lib.hid (begun_any w)
  by_cases hL : lightL l = false
  · go_enter Try.func6, Try.ntmps6
    go_wp2_with fail
    refine HB.out.mono ?_
    rintro e w1 ⟨rfl, hb1⟩
    have HLi := Lib.hid (Light_any (h.below hb1))
    rw [hL] at HLi
    clear hL
    go_wp2_with fail
    refine HLi.out.mono ?_
    rintro e w3 ⟨rfl, rfl⟩
    go_wp2_with fail
    go_ret
    exact ⟨rfl, hb1⟩
  have hL' : lightL l = true := by simpa using hL
  clear hL
  obtain ⟨b, E, hR⟩ : ∃ b E, foR l = (b, E) := ⟨_, _, rfl⟩
  by_cases hE : E ≠ 0
  · have hE' : (E != 0) = true := by simpa using hE
    have hb0 : b = [] := by
      by_cases hm : mayL l = true
      · by_cases h4 : 4000 < (foB l).length
        · rw [foR_long hm h4] at hR
          exact (Prod.mk.inj hR).1.symm
        · rw [foR_yes hm h4] at hR
          exact absurd (Prod.mk.inj hR).2.symm hE
      · rw [foR_no (by simpa using hm)] at hR
        exact (Prod.mk.inj hR).1.symm
    subst hb0
    go_enter Try.func6, Try.ntmps6
    go_wp2_with fail
    refine HB.out.mono ?_
    rintro e w1 ⟨rfl, hb1⟩
    have HLi := Lib.hid (Light_any (h.below hb1))
    rw [hL'] at HLi
    have HBy := Lib.hid (Bytes_any (h.below hb1))
    rw [hR] at HBy
    clear hR hE hL'
    go_wp2_with fail
    refine HLi.out.mono ?_
    rintro e w3 ⟨rfl, rfl⟩
    go_wp2_with fail
    refine HBy.out.mono ?_
    rintro e w2 ⟨A2, n2, c2, rfl, ho2, hb2⟩
    obtain rfl : 0 = n2 := ho2.lenb
    have hb12 := hb1.trans (hb2.mono hb1.size)
    go_wp2_with fail
    go_ret
    exact ⟨rfl, hb12⟩
  obtain rfl : E = 0 := by simpa using hE
  clear hE
  have hbl : 3 ≤ b.length ∧ b.length ≤ 4000 := by
    obtain ⟨a1, a2, rfl⟩ := foR_inv hR
    refine ⟨?_, by omega⟩
    rw [foB_three a1]
    simp
  obtain ⟨hb3, hb4⟩ := hbl
  obtain ⟨p, hp⟩ : ∃ p, placeP k b.length = p := ⟨_, rfl⟩
  have hpl := placeP_lt k b.length (by omega)
  have HPl := Lib.hid (fun W => Place_any k b.length W hk0 hk1 (by omega))
  rw [hp] at hpl HPl
  have HT1 := Lib.hid (take_self hR h.ok)
  have HT2 := Lib.hid (take_cut (p := p) hR h.ok hpl)
  have HT3 := Lib.hid (take_more (q := [UInt8.ofNat v.toNat]) hR h.ok (by simp))
  have HV := Lib.hid (byte_cell v hv0 hv1)
  obtain ⟨nb, hnb⟩ : ∃ nb, b.length = nb := ⟨_, rfl⟩
  rw [hnb] at hb3 hb4 hpl HPl
  have HNB := Lib.hid hnb
  have HR := Lib.hid hR
  clear hp hnb hR
  go_enter Try.func6, Try.ntmps6
  go_wp2_with fail
  refine HB.out.mono ?_
  rintro e w1 ⟨rfl, hb1⟩
  have HLi := Lib.hid (Light_any (h.below hb1))
  rw [hL'] at HLi
  have HBy := Lib.hid (Bytes_any (h.below hb1))
  rw [HR.out] at HBy
  clear hL'
  go_wp2_with fail
  refine HLi.out.mono ?_
  rintro e w3 ⟨rfl, rfl⟩
  go_wp2_with fail
  refine HBy.out.mono ?_
  rintro e w2 ⟨A2, n2, c2, rfl, ho2, hbl2⟩
  obtain rfl : nb = n2 := HNB.out.symm.trans ho2.lenb
  have hb2 := hb1.trans (hbl2.mono hb1.size)
  clear HBy HLi HR
  go_wp2_with fail
  refine (Take_any A2 nb c2 _ _ ho2.rd (by omega)).mono ?_
  rintro e w3 ⟨A3, n3, c3, rfl, ho3, hbl3⟩
  rw [HT1.out] at ho3 ⊢
  dsimp only at ho3 ⊢
  have hB3 := hb2.trans (hbl3.mono hb2.size)
  have ho23 := ho2.below hbl3
  have hsl := run_slice_h_rd (P := Try.prog) (A := A2) (n := nb) (c := c2) eb (kh := .i64) p (H := (p : Int)) rfl (by have := ho2.rd.le; omega)
  go_wp2_with fail
  refine (HPl.out _).mono ?_
  rintro e w4 ⟨rfl, rfl⟩
  go_wp2_with fail
  refine (Take_any A2 p c2 (b.take p) _ (ho23.rd.take_ (k := p) (by omega)) (by omega)).mono ?_
  rintro e w5 ⟨A5, n5, c5, rfl, ho5, hbl5⟩
  rw [HT2.out ho5.ok]
  have ho35 := ho3.below hbl5
  have hB5 := hB3.trans (hbl5.mono hB3.size)
  have ho25 := ho23.below hbl5
  clear hsl ho5 ho23 ho3 ho2
  go_wp2_with (first
      | (at_builtin; refine wpList_app rfl _ _ rfl eb (Own.lit _ w5.heap.size [] _ 0 rfl (by decide) (Nat.le_refl _)) rfl (ho25.rd.alloc _) rfl (b8_one _) (by omega) (by unfold maxLen; omega) (by simp) ?_; intro A9 c9 w9 ho9 hg9 hq9; rw [Nat.zero_add, List.nil_append] at ho9; have hb89 := ((Below.refl w5.heap.size w5).alloc (Nat.le_refl _) _).grown hg9 (by simp) (by intro g hg; simp [blk] at hg; omega))
      | (at_builtin; refine wpList_app rfl _ _ rfl eb (ho9.alloc _) rfl (Rd.lit _ [_] _ 1 rfl (by unfold maxLen; omega)) rfl (by simp [Value.oneCell']) (by omega) (by unfold maxLen; omega) (by have := hb89.size; simp; omega) ?_; intro A10 c10 w10 ho10 hg10 hq10; rw [HV.out, ← List.map_append] at ho10; have hb810 := (hb89.alloc hb89.size _).grown hg10 (hb89.alloc hb89.size _).size (fun g hg => (ho9.lt g hg).1)))
  have hB10 := hB5.trans (hb810.mono hB5.size)
  have ho310 := ho35.below hb810
  clear hg9 hq9 hg10 hq10 ho35 ho25
  refine (Take_any A10 (nb + 1) c10 _ _ ho10.rd (by omega)).mono ?_
  rintro e w11 ⟨A11, n11, c11, rfl, ho11, hbl11⟩
  rw [HT3.out]
  have hB11 := hB10.trans (hbl11.mono hB10.size)
  have HA := Lib.hid (Alike_any (h.below hB11) (ho310.below hbl11).its)
  rw [decide_self] at HA
  clear ho11 ho10 ho9
  go_wp2_with fail
  refine HA.out.mono ?_
  rintro e w12 ⟨rfl, hbl12⟩
  go_wp2_with fail
  go_ret
  exact ⟨rfl, hB11.trans (hbl12.mono hB11.size)⟩

end Go.Proofs.Ytgdbdhfomlkpdaa
