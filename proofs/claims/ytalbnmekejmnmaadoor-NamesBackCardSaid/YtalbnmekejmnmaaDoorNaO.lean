/-
  Package names: the document's Unhex.
-/
import Derived.Test.YtalbnmekejmnmaaDoorNaN
import Derived.Test.YtalbnmekejmnmaaDoorMixC
import Derived.IntWalk
namespace Go.Proofs.YtalbnmekejmnmaaDoor
open Go.RowKit

set_option maxRecDepth 20000 in
set_option maxHeartbeats 2000000 in
theorem RUnhex_any (s : ByteArray) (hm : (s.size : Int) ≤ 1073741824) (w : World) : Calls Tryd.prog 19 #[.string s] w fun e w' => ∃ A n c, e = .returned (.tuple #[.slice A n c, .int .i64 (uxR s).2]) ∧ Own w' w.heap.size 5 1 A n c ((uxR s).1.map b8) ∧ Below w.heap.size w w' := by
  go_enter Tryd.func19, Tryd.ntmps19
  go_wp2_with fail
  go_loopw [4, 5] (fun v i wr => ∃ (k n : Nat) (A : Option Addr) (c : Nat), k ≤ s.size ∧ i = .int .i64 k ∧ v = .slice A n c ∧ Own wr w.heap.size 5 1 A n c ((pT s k).map b8) ∧ Below w.heap.size w wr ∧ Hid (∀ j (hj : j < s.size), j < k → 0 ≤ halfI (s[j].toNat : Int))) (fun _ i _ => s.size - (intOf i).toNat)
  case atStart =>
    refine ⟨0, 0, _, _, by omega, rfl, rfl, Own.new _ _ _ _ _ _ (Nat.le_refl _) (Nat.le_refl _) (Nat.zero_le _) (by simp [pT, pairL]) (by simp) (by simp [pT, pairL]) (by simp), (Below.refl _ _).alloc (Nat.le_refl _) _, (show ∀ j (hj : j < s.size), j < 0 → _ from fun j _ h => absurd h (Nat.not_lt_zero j))⟩
  case round =>
    obtain ⟨k, n, A, c, hk, rfl, rfl, ho, hb, hH⟩ := hrel
    by_cases hlt : k < s.size
    · have hB := hb.size
      have hn := ho.lenb
      rw [pT_len s k hk] at hn
      obtain ⟨x, hx⟩ : ∃ x, (s[k].toNat : Int) = x := ⟨_, rfl⟩
      have hx0 : 0 ≤ x := by omega
      have hx1 : x ≤ 255 := by have := s[k].toNat_lt; omega
      obtain ⟨v, hv⟩ : ∃ v, halfI x = v := ⟨_, rfl⟩
      have HC := Lib.hid (RDigit_any x hx0 hx1)
      rw [hv] at HC
      rcases halfI_range x with hI | ⟨hI, hI2⟩
      · have HU := Lib.hid (uxR_no (s := s) fun h2 => by have := h2.1 k hlt; rw [hx] at this; omega)
        obtain rfl : v = -1 := by omega
        clear hI hH hv
        go_wp2_with fail
        refine (HC.out _).mono ?_
        rintro e w9 ⟨rfl, rfl⟩
        go_wp2_with fail
        go_ret2
        rw [HU.out]
        exact ⟨_, _, _, rfl, Own.nil_ _ _ _ _, hb⟩
      · have hnext : ∀ j (hj : j < s.size), j < k + 1 → 0 ≤ halfI (s[j].toNat : Int) := by
          intro j hj hjk
          by_cases e : j = k
          · subst e
            rw [hx]
            exact hI
          · exact hH.out j hj (by omega)
        have HN := Lib.hid hnext
        have HX := Lib.hid hx
        have HV := Lib.hid hv
        have HD := HC
        rw [hv] at hI hI2
        have hH2 := Lib.hid hH.out
        clear hnext hv hH
        by_cases hev : k % 2 = 0
        · have hev' : (k : Int) % 2 = 0 := by omega
          have HO := Lib.hid (pT_even hlt hev)
          clear hev hH2 HD
          go_wp2_with fail
          refine (HC.out _).mono ?_
          rintro e w9 ⟨rfl, rfl⟩
          go_wp2_with fail
          exact ⟨⟨k + 1, n, A, c, by omega, by go_num, rfl, by rw [HO.out]; exact ho, hb, HN.out⟩, by simp [intOf]; omega⟩
        · have hod : k % 2 = 1 := by omega
          obtain ⟨j, rfl⟩ : ∃ j, k = j + 1 := ⟨k - 1, by omega⟩
          have hev' : ((j : Int) + 1) % 2 = 1 := by omega
          obtain ⟨y, hy⟩ : ∃ y, (s[j].toNat : Int) = y := ⟨_, rfl⟩
          have hy0 : 0 ≤ y := by omega
          have hy1 : y ≤ 255 := by have := s[j].toNat_lt; omega
          obtain ⟨a, ha⟩ : ∃ a, halfI y = a := ⟨_, rfl⟩
          have ha15 := half_le y
          have ha0 := hH2.out j (by omega) (by omega)
          rw [hy, ha] at ha0
          rw [ha] at ha15
          have HDa := Lib.hid (RDigit_any y hy0 hy1)
          rw [ha] at HDa
          have hst := pT_odd hlt hod
          simp only [Nat.add_sub_cancel] at hst
          rw [hx, hy, HV.out, ha] at hst
          have HO := Lib.hid hst
          have HBP := Lib.hid (byte_pair a v (by omega) (by omega) (by omega) (by omega))
          have hav : 0 ≤ 16 * a + v := by omega
          have hav2 : 16 * a + v ≤ 255 := by omega
          have hjl : j < s.size := by omega
          have hw1 : IntKind.i64.wrap (j : Int) = j := IntWalk.i64_in _ (by omega)
          have hw2 : IntKind.i64.wrap (16 * a) = 16 * a := IntWalk.i64_in _ (by omega)
          have hw3 : IntKind.i64.wrap (16 * a + v) = 16 * a + v := IntWalk.i64_in _ (by omega)
          have hw4 : IntKind.u8.wrap (16 * a + v) = 16 * a + v := by rw [IntKind.wrap_u8]; omega
          have hj1 : (0 : Int) ≤ (j : Int) + 1 := by omega
          clear hev hst ha hH2 hod
          go_wp2_with fail
          refine (HC.out _).mono ?_
          rintro e w9 ⟨rfl, rfl⟩
          go_wp2_with fail
          refine wp_region_mixg (mixL 16 [13, 14]) (fun _ => True) (by kernel_rfl) (by kernel_rfl) (by rfl) (by kernel_rfl) (fun _ _ _ _ _ h => h) trivial ?_
          iterate 5 (refine mixc_read (o := ⟨_, _, _, _, _, _⟩) (by rfl) (by rfl) ?_; go_big_quiet_step (fail); refine wpQuiet_nil ?_)
          refine mixc_quiet (o := ⟨_, _, _, _, _, _⟩) (by rfl) (by rfl) (.int .i64 a) (fun W => by go_simp) (fun w' _ => HDa.out w') ?_
          simp only [Act.put, List.setIfInBounds_toArray, List.set_cons_succ, List.set_cons_zero]
          iterate 4 (refine mixc_read (o := ⟨_, _, _, _, _, _⟩) (by rfl) (by rfl) ?_; go_big_quiet_step (fail); refine wpQuiet_nil ?_)
          refine mixc_quiet (o := ⟨_, _, _, _, _, _⟩) (by rfl) (by rfl) (.int .i64 v) (fun W => by go_simp) (fun w' _ => HD.out w') ?_
          simp only [Act.put, List.setIfInBounds_toArray, List.set_cons_succ, List.set_cons_zero]
          iterate 2 (refine mixc_read (o := ⟨_, _, _, _, _, _⟩) (by rfl) (by rfl) ?_; go_big_quiet_step (fail); refine wpQuiet_nil ?_)
          refine mixc_one (o := ⟨_, _, _, _, _, _⟩) (by rfl) (fun K hK => ?_)
          go_wp2_with fail
          refine hK _ _ trivial ?_
          clear hK
          refine mixc_one (o := ⟨_, _, _, _, _, _⟩) (by rfl) (fun K hK => ?_)
          go_wp2_with (at_builtin; refine wpList_app rfl _ _ rfl eb (ho.alloc _).drew rfl (Rd.lit _ [_] _ 1 rfl (by decide)).drew rfl (by simp [Value.oneCell']) (by omega) (by unfold maxLen; omega) (by simp; omega) ?_; intro A2 c2 w2 ho2 hg2 hb2)
          refine hK _ _ trivial ?_
          clear hK
          refine mixc_read (o := ⟨_, _, _, _, _, _⟩) (by rfl) (by rfl) ?_
          go_big_quiet_step (fail)
          refine wpQuiet_nil ?_
          refine mixc_done ?_
          go_wp2_with fail
          trace_state
          go_roundw
          case rel =>
            refine ⟨j + 1 + 1, _, A2, c2, by omega, by go_num, rfl, ?_, ?_, HN.out⟩
            · rw [HO.out]
              simpa [HBP.out] using ho2
            · exact (hb.alloc hB _).drew.grown hg2 (by simp; omega) (by intro g hg; exact (ho.lt g hg).1)
          case measure => simp [intOf]; omega
    · have e : k = s.size := by omega
      subst e
      by_cases hev : s.size % 2 = 0
      · have HU := Lib.hid (uxR_yes (s := s) ⟨fun j hj => hH.out j hj hj, hev⟩)
        have HPA := Lib.hid (pT_all s)
        have hev' : (s.size : Int) % 2 = 0 := by omega
        clear hev hH
        go_wp2_with fail
        go_ret2
        rw [HU.out]
        exact ⟨_, _, _, rfl, by rw [HPA.out] at ho; exact ho, hb⟩
      · have HU := Lib.hid (uxR_no (s := s) fun h2 => hev h2.2)
        have hev' : (s.size : Int) % 2 = 1 := by omega
        clear hev hH
        go_wp2_with fail
        go_ret2
        rw [HU.out]
        exact ⟨_, _, _, rfl, Own.nil_ _ _ _ _, hb⟩

end Go.Proofs.YtalbnmekejmnmaaDoor
