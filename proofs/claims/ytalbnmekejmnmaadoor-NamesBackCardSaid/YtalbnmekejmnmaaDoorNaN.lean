/-
  Package names: Unhex.
-/
import Derived.Test.YtalbnmekejmnmaaDoorNaM
import Derived.Test.YtalbnmekejmnmaaDoorPure1
import Derived.Test.YtalbnmekejmnmaaDoorNaE
namespace Go.Proofs.YtalbnmekejmnmaaDoor
open Go.RowKit

def hexS (s : ByteArray) : Prop := ∀ k (hk : k < s.size), 0 ≤ halfI (s[k].toNat : Int)
open Classical in
/-- What Unhex answers: the bytes, the error. -/
noncomputable def uxR (s : ByteArray) : List UInt8 × Int := if hexS s ∧ s.size % 2 = 0 then (pairL s.data.toList, 0) else ([], 4)
theorem uxR_no {s : ByteArray} (h : ¬ (hexS s ∧ s.size % 2 = 0)) : uxR s = ([], 4) := if_neg h
theorem uxR_yes {s : ByteArray} (h : hexS s ∧ s.size % 2 = 0) : uxR s = (pairL s.data.toList, 0) := if_pos h
theorem uxR_len (s : ByteArray) : (uxR s).1.length ≤ s.size / 2 := by
  by_cases h : hexS s ∧ s.size % 2 = 0
  · rw [uxR_yes h]
    dsimp only
    rw [pairL_length]
    exact Nat.le_refl _
  · rw [uxR_no h]
    exact Nat.zero_le _
theorem pairL_odd : ∀ (l : List UInt8) (x : UInt8), l.length % 2 = 0 → pairL (l ++ [x]) = pairL l
  | [], _, _ => rfl
  | [_], _, h => by simp at h
  | a :: b :: l, x, h => by
    simp only [List.cons_append, pairL, pairL_odd l x (by simp at h; omega)]
theorem bytes_take (s : ByteArray) (k : Nat) (h : k < s.size) : s.data.toList.take (k + 1) = s.data.toList.take k ++ [s[k]] := by
  rw [List.take_succ_eq_append_getElem (by simpa using h)]; rfl
theorem take_len (s : ByteArray) (k : Nat) (h : k ≤ s.size) : (s.data.toList.take k).length = k := by
  rw [List.length_take]
  have : s.data.toList.length = s.size := by simp
  omega
/-- The bytes of the first k digits. -/
def pT (s : ByteArray) (k : Nat) : List UInt8 := pairL (s.data.toList.take k)
theorem pT_even {s : ByteArray} {k : Nat} (h : k < s.size) (he : k % 2 = 0) : pT s (k + 1) = pT s k := by
  unfold pT
  rw [bytes_take s k h, pairL_odd _ _ (by rw [take_len s k (by omega)]; exact he)]
theorem pT_odd {s : ByteArray} {k : Nat} (h : k < s.size) (he : k % 2 = 1) : pT s (k + 1) = pT s k ++ [UInt8.ofNat (16 * halfI (s[k - 1].toNat) + halfI (s[k].toNat)).toNat] := by
  obtain ⟨j, rfl⟩ : ∃ j, k = j + 1 := ⟨k - 1, by omega⟩
  rw [pT_even (k := j) (by omega) (by omega)]
  unfold pT
  rw [bytes_take s (j + 1) h, bytes_take s j (by omega), List.append_assoc]
  exact pairL_snoc _ _ _ (by rw [take_len s j (by omega)]; omega)
theorem pT_all (s : ByteArray) : pT s s.size = pairL s.data.toList := by
  unfold pT
  rw [List.take_of_length_le (by simp)]
theorem pT_len (s : ByteArray) (k : Nat) (h : k ≤ s.size) : (pT s k).length = k / 2 := by
  unfold pT
  rw [pairL_length, take_len s k h]
theorem i64_and1 (k : Int) (h0 : 0 ≤ k) (h1 : k ≤ 9223372036854775807) : bits .and .i64 k 1 = k % 2 := by
  obtain ⟨K, rfl⟩ := Int.eq_ofNat_of_zero_le h0
  have := i64_and_nat K 1 (by omega) (by omega)
  rw [nat_mask1] at this
  exact this.trans (by omega)
theorem half_le (x : Int) : -1 ≤ halfI x ∧ halfI x ≤ 15 := by
  rcases halfI_range x with h | h <;> omega
theorem byte_pair (a b : Int) (a0 : 0 ≤ a) (a1 : a ≤ 15) (b0 : 0 ≤ b) (b1 : b ≤ 15) : b8 (UInt8.ofNat (16 * a + b).toNat) = .int .u8 (16 * a + b) := by
  rw [b8_ofNat]
  congr 1
  omega

set_option maxRecDepth 20000 in
set_option maxHeartbeats 2000000 in
theorem Unhex_any (s : ByteArray) (hm : (s.size : Int) ≤ 1073741824) (w : World) : Calls Tryd.prog 18 #[.string s] w fun e w' => ∃ A n c, e = .returned (.tuple #[.slice A n c, .int .i64 (uxR s).2]) ∧ Own w' w.heap.size 5 1 A n c ((uxR s).1.map b8) ∧ Below w.heap.size w w' := by
  go_enter Tryd.func18, Tryd.ntmps18
  go_wp2_with (at_make
               refine wpList_mk rfl _ _ rfl eb rfl rfl 0 (s.size / 2) (by omega) (by omega) (by omega) (by omega) (by unfold maxLen; omega) (Nat.le_refl _) ?_
               intro w1 ho1 hg1 hz1)
  clear hz1
  go_loopw [4, 5, 15] (fun v hv i wr => ∃ (k n : Nat) (A : Option Addr) (c : Nat) (h : Int), k ≤ s.size ∧ i = .int .i64 k ∧ v = .slice A n c ∧ hv = .int .u8 h ∧ 0 ≤ h ∧ h ≤ 255 ∧ Own wr w.heap.size 5 1 A n c ((pT s k).map b8) ∧ Below w.heap.size w wr ∧ Hid (∀ j (hj : j < s.size), j < k → 0 ≤ halfI (s[j].toNat : Int)) ∧ Hid (k % 2 = 1 → ∀ h1 : k - 1 < s.size, h = 16 * halfI (s[k - 1].toNat : Int))) (fun _ _ i _ => s.size - (intOf i).toNat)
  case atStart =>
    refine ⟨0, 0, _, _, 0, by omega, rfl, rfl, rfl, by omega, by omega, by simpa [madeCells, pT, pairL] using ho1, (Below.refl _ _).grown hg1 (Nat.le_refl _) (by simp), (show ∀ j (hj : j < s.size), j < 0 → _ from fun j _ h => absurd h (Nat.not_lt_zero j)), ?_⟩
    show _ → _
    intro h
    omega
  case round =>
    obtain ⟨k, n, A, c, h, hk, rfl, rfl, rfl, h0, h255, ho, hb, hH, hP⟩ := hrel
    by_cases hlt : k < s.size
    · have hB := hb.size
      have hn := ho.lenb
      rw [pT_len s k hk] at hn
      obtain ⟨x, hx⟩ : ∃ x, (s[k].toNat : Int) = x := ⟨_, rfl⟩
      have hx0 : 0 ≤ x := by omega
      have hx1 : x ≤ 255 := by have := s[k].toNat_lt; omega
      have hnext : 0 ≤ halfI x → ∀ j (hj : j < s.size), j < k + 1 → 0 ≤ halfI (s[j].toNat : Int) := by
        intro h1 j hj hjk
        by_cases e : j = k
        · subst e
          rw [hx]
          exact h1
        · exact hH.out j hj (by omega)
      rcases halfI_range x with hI | ⟨hI, hI2⟩
      · have HC := Lib.hid (half_any x hx0 hx1)
        have HE := Lib.hid (half_no hI)
        have HU := Lib.hid (uxR_no (s := s) fun h2 => by have := h2.1 k hlt; rw [hx] at this; omega)
        clear hnext hI hP hH
        go_wp2_with fail
        refine (HC.out _).mono ?_
        rintro e w9 ⟨rfl, rfl⟩
        rw [HE.out.1, HE.out.2]
        go_wp2_with fail
        go_ret2
        rw [HU.out]
        exact ⟨_, _, _, rfl, Own.nil_ _ _ _ _, hb⟩
      · obtain ⟨v, hv⟩ : ∃ v, halfI x = v := ⟨_, rfl⟩
        have HC := Lib.hid (half_any x hx0 hx1)
        have HE := Lib.hid (half_yes hv (by omega))
        have HN := Lib.hid (hnext hI)
        have HX := Lib.hid hx
        have HV := Lib.hid hv
        have ha1 := i64_and1 (k : Int) (by omega) (by omega)
        rw [hv] at hI hI2
        have hH2 := Lib.hid hH.out
        clear hnext hv hH
        by_cases hev : k % 2 = 0
        · have hev' : (k : Int) % 2 = 0 := by omega
          have HO := Lib.hid (pT_even hlt hev)
          clear hev hP hH2
          go_wp2_with fail
          refine (HC.out _).mono ?_
          rintro e w9 ⟨rfl, rfl⟩
          rw [HE.out.1, HE.out.2]
          go_wp2_with fail
          refine ⟨⟨k + 1, n, A, c, v * 16, by omega, by go_num, rfl, rfl, by omega, by omega, by rw [HO.out]; exact ho, hb, HN.out, ?_⟩, by simp [intOf]; omega⟩
          show _ → ∀ _, _
          intro _ h1
          simp only [Nat.add_sub_cancel] at h1 ⊢
          rw [HX.out, HV.out]
          omega
        · have hev' : (k : Int) % 2 = 1 := by omega
          obtain ⟨a, ha⟩ : ∃ a, halfI (s[k - 1].toNat : Int) = a := ⟨_, rfl⟩
          have hae := hP.out (by omega) (by omega)
          have ha15 := half_le (s[k - 1].toNat : Int)
          have ha0 : 0 ≤ halfI (s[k - 1].toNat : Int) := hH2.out (k - 1) (by omega) (by omega)
          rw [ha] at hae ha15 ha0
          have hor : bits .or .u8 h v = 16 * a + v := by
            rw [hae]
            exact u8_or a v (by omega) (by omega) (by omega) (by omega)
          have hst := pT_odd hlt (by omega)
          rw [hx, HV.out, ha] at hst
          have HO := Lib.hid hst
          have hbp := byte_pair a v (by omega) (by omega) (by omega) (by omega)
          have HBP := Lib.hid hbp
          have hav : 0 ≤ 16 * a + v := by omega
          have hav2 : 16 * a + v ≤ 255 := by omega
          clear hev hst hbp ha hae hP hH2
          go_wp2_with fail
          refine (HC.out _).mono ?_
          rintro e w9 ⟨rfl, rfl⟩
          rw [HE.out.1, HE.out.2]
          go_wp2_with (at_builtin; refine wpList_app rfl _ _ rfl eb (ho.alloc _) rfl (Rd.lit _ [_] _ 1 rfl (by decide)) rfl (by simp [Value.oneCell']) (by omega) (by unfold maxLen; omega) (by simp; omega) ?_; intro A2 c2 w2 ho2 hg2 hb2)
          go_roundw
          case rel =>
            refine ⟨k + 1, _, A2, c2, h, by omega, by go_num, rfl, rfl, h0, h255, ?_, ?_, HN.out, ?_⟩
            · rw [HO.out]
              simpa [HBP.out] using ho2
            · exact (hb.alloc hB _).grown hg2 (by simp; omega) (by intro g hg; exact (ho.lt g hg).1)
            · show _ → ∀ _, _
              omega
          case measure => simp [intOf]; omega
    · have e : k = s.size := by omega
      subst e
      have ha1 := i64_and1 (s.size : Int) (by omega) (by omega)
      by_cases hev : s.size % 2 = 0
      · have hU := uxR_yes (s := s) ⟨fun j hj => hH.out j hj hj, hev⟩
        have HU := Lib.hid hU
        have HPA := Lib.hid (pT_all s)
        have hev' : (s.size : Int) % 2 = 0 := by omega
        clear hev hU hH hP
        go_wp2_with fail
        go_ret2
        rw [HU.out]
        exact ⟨_, _, _, rfl, by rw [HPA.out] at ho; exact ho, hb⟩
      · have HU := Lib.hid (uxR_no (s := s) fun h2 => hev h2.2)
        have hev' : (s.size : Int) % 2 = 1 := by omega
        clear hev hH hP
        go_wp2_with fail
        go_ret2
        rw [HU.out]
        exact ⟨_, _, _, rfl, Own.nil_ _ _ _ _, hb⟩

end Go.Proofs.YtalbnmekejmnmaaDoor
