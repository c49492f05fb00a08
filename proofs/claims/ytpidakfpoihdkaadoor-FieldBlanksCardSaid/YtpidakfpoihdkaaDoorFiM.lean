/-
  The law FieldBlanks.
-/
import Derived.Test.YtpidakfpoihdkaaDoorFiF
import Derived.Test.YtpidakfpoihdkaaDoorFiL
import Derived.Test.YtpidakfpoihdkaaDoorShap
namespace Go.Proofs.YtpidakfpoihdkaaDoor
open Go.RowKit

theorem mx_of {w : World} (h : w.ShapedOpen Tryd.checked.prog) : Mx w :=
  Go.Proofs.cell_of_shapedOpen_int (zero := #[.int .i64 0]) (t := 3) h (of_decide_eq_true (by kernel_rfl)) (by kernel_rfl) rfl (by kernel_rfl) (by kernel_rfl) Tryd.underlying3
theorem fdEq_self (a b : List UInt8) : fdEq a b a b = true := by simp [fdEq]
theorem down_case (x : UInt8) : ((97 ≤ (x.toNat : Int) ∧ (x.toNat : Int) ≤ 122) ∧ Value.int .u8 ((x.toNat : Int) - 32) = b8 (upB x)) ∨ ((x.toNat : Int) < 97 ∧ upB x = x) ∨ ((97 ≤ (x.toNat : Int) ∧ 122 < (x.toNat : Int)) ∧ upB x = x) := by
  unfold upB
  by_cases h1 : (x.toNat : Int) < 97
  · exact .inr (.inl ⟨h1, if_neg (by omega)⟩)
  · by_cases h2 : (x.toNat : Int) ≤ 122
    · refine .inl ⟨⟨by omega, h2⟩, ?_⟩
      rw [if_pos (by omega)]
      unfold b8
      congr 1
      have : (x - 32).toNat = x.toNat - 32 := by
        rw [UInt8.toNat_sub_of_le]
        · rfl
        · show (32 : UInt8).toNat ≤ x.toNat
          have : (32 : UInt8).toNat = 32 := rfl
          omega
      rw [this]
      omega
    · exact .inr (.inr ⟨⟨by omega, by omega⟩, if_neg (by omega)⟩)
theorem up_mid {s : List UInt8} {k : Nat} {x : UInt8} (h : s[k]? = some x) : upL (s.take k) ++ s.drop k = upL (s.take k) ++ x :: s.drop (k + 1) ∧ upL (s.take (k + 1)) ++ s.drop (k + 1) = upL (s.take k) ++ upB x :: s.drop (k + 1) := by
  obtain ⟨hk, hx⟩ := List.getElem?_eq_some_iff.1 h
  refine ⟨by rw [List.drop_eq_getElem_cons hk, hx], ?_⟩
  unfold upL
  rw [List.take_succ_eq_append_getElem hk, hx, List.map_append, List.append_assoc]
  rfl
theorem mk_app (a b : List UInt8) : ((⟨a.toArray⟩ : ByteArray) ++ ⟨b.toArray⟩) = ⟨(a ++ b).toArray⟩ := by
  apply ByteArray.ext
  simp [ByteArray.data_append]

set_option maxRecDepth 20000 in
set_option maxHeartbeats 16000000 in
theorem fieldBlanks_walk {w : World} (hm : Mx w) (s : ByteArray) (_ : s.size ≤ maxLen) (s' : ByteArray) (_ : s'.size ≤ maxLen) (A : Option Addr) (n c : Nat) (P : List Bool) (hP : Rd w 1 A n c (P.map Value.bool))
    (B : Option Addr) (m d : Nat) (Q : List Bool) (hQ : Rd w 1 B m d (Q.map Value.bool)) (u : Bool) :
    Calls Tryd.prog 5 #[.string s, .string s', .slice A n c, .slice B m d, .bool u] w fun e w' => e = .returned (.bool true) ∧ Below w.heap.size w w' := by
  obtain ⟨a, rfl⟩ : ∃ l : List UInt8, s = ⟨l.toArray⟩ := ⟨s.data.toList, by cases s; simp⟩
  obtain ⟨b, rfl⟩ : ∃ l : List UInt8, s' = ⟨l.toArray⟩ := ⟨s'.data.toList, by cases s'; simp⟩
  have HM := Lib.hid (fun W (hb : Below w.heap.size w W) => hm.below hb)
  have HB := Lib.hid (begun_any w hm)
  have hz := size_mk a
  have hz' := size_mk b
  have hPl : P.length = n := by simpa using hP.len
  have hQl : Q.length = m := by simpa using hQ.len
  clear hm
  by_cases n1 : (1024 : Int) < a.length
  · have n1' : decide ((1024 : Int) < a.length) = true := decide_eq_true n1
    clear n1
    go_enter Tryd.func5, Tryd.ntmps5
    go_wp2_with fail
    refine HB.out.mono ?_
    rintro e w1 ⟨rfl, hb1⟩
    go_wp2_with fail
    go_ret
    exact ⟨rfl, hb1⟩
  have n1' : decide ((1024 : Int) < a.length) = false := decide_eq_false n1
  have n1b : a.length ≤ 1024 := by omega
  by_cases n2 : (1024 : Int) < b.length
  · have n2' : decide ((1024 : Int) < b.length) = true := decide_eq_true n2
    clear n2
    go_enter Tryd.func5, Tryd.ntmps5
    go_wp2_with fail
    refine HB.out.mono ?_
    rintro e w1 ⟨rfl, hb1⟩
    go_wp2_with fail
    go_ret
    exact ⟨rfl, hb1⟩
  have n2' : decide ((1024 : Int) < b.length) = false := decide_eq_false n2
  have n2b : b.length ≤ 1024 := by omega
  by_cases n3 : (50 : Int) < n
  · have n3' : decide ((50 : Int) < n) = true := decide_eq_true n3
    clear n3
    go_enter Tryd.func5, Tryd.ntmps5
    go_wp2_with fail
    refine HB.out.mono ?_
    rintro e w1 ⟨rfl, hb1⟩
    go_wp2_with fail
    go_ret
    exact ⟨rfl, hb1⟩
  have n3' : decide ((50 : Int) < n) = false := decide_eq_false n3
  have n3b : n ≤ 50 := by omega
  by_cases n4 : (50 : Int) < m
  · have n4' : decide ((50 : Int) < m) = true := decide_eq_true n4
    clear n4
    go_enter Tryd.func5, Tryd.ntmps5
    go_wp2_with fail
    refine HB.out.mono ?_
    rintro e w1 ⟨rfl, hb1⟩
    go_wp2_with fail
    go_ret
    exact ⟨rfl, hb1⟩
  have n4' : decide ((50 : Int) < m) = false := decide_eq_false n4
  have n4b : m ≤ 50 := by omega
  have HBP := Lib.hid (fun W (hb : Below w.heap.size w W) => blanks_any (hP.below hb) (by omega))
  have HBQ := Lib.hid (fun W (hb : Below w.heap.size w W) => blanks_any (hQ.below hb) (by omega))
  have hzP : (⟨(blkL P).toArray⟩ : ByteArray).size = n := by rw [size_mk]; unfold blkL; rw [List.length_map, hPl]
  have hzQ : (⟨(blkL Q).toArray⟩ : ByteArray).size = m := by rw [size_mk]; unfold blkL; rw [List.length_map, hQl]
  have hbl1 : (blkL P).length = n := by unfold blkL; rw [List.length_map, hPl]
  have hbl2 : (blkL Q).length = m := by unfold blkL; rw [List.length_map, hQl]
  have hcat : ((⟨a.toArray⟩ : ByteArray) ++ ⟨#[58]⟩ ++ ⟨b.toArray⟩) = ⟨(a ++ 58 :: b).toArray⟩ := by
    apply ByteArray.ext
    simp [ByteArray.data_append]
  have HL1 := Lib.hid (fun W h => Line_any (a ++ 58 :: b) (by simp; omega) W h)
  have HCAT := Lib.hid hcat
  clear n1 n2 n3 n4 hPl hQl hP hQ hcat
  go_enter Tryd.func5, Tryd.ntmps5
  go_wp2_with fail
  refine HB.out.mono ?_
  rintro e w1 ⟨rfl, hb1⟩
  go_wp2_with fail
  go_loopw [11] (fun i wr => ∃ k : Nat, k ≤ a.length ∧ i = .int .i64 k ∧ w1 = wr ∧ Hid (58 ∉ a.take k)) (fun i _ => a.length - (intOf i).toNat)
  case atStart => exact ⟨0, by omega, rfl, rfl, (show 58 ∉ a.take 0 by simp)⟩
  case round =>
    obtain ⟨k, hk, rfl, rfl, hH⟩ := hrel
    by_cases hkn : k < a.length
    · have hx : a[k]? = some (a[k]'hkn) := List.getElem?_eq_getElem _
      have hnext : a[k]'hkn ≠ 58 → 58 ∉ a.take (k + 1) := fun h hm => by
        rw [List.take_succ_eq_append_getElem hkn] at hm
        rcases List.mem_append.1 hm with hm | hm
        · exact hH.out hm
        · exact h (by simpa using hm : (58 : UInt8) = a[k]'hkn).symm
      generalize a[k]'hkn = x at hx hnext
      have hi := run_str_at (P := Tryd.prog) Tryd.underlying9 a k x hx (kl := .i64)
      have hk' : (k : Int) < a.length := by omega
      have HNX := Lib.hid hnext
      clear hx hnext hkn hH
      by_cases h58 : x = 58
      · have h58' : ((x.toNat : Int) == 58) = true := by rw [h58]; rfl
        clear h58
        go_wp2_with fail
        go_ret
        exact ⟨rfl, hb1⟩
      · have h58' : ((x.toNat : Int) == 58) = false := by
          simp
          intro e
          exact h58 (UInt8.toNat_inj.1 (by simpa using (by omega : x.toNat = 58)))
        have HN2 := Lib.hid (HNX.out h58)
        clear h58
        go_wp2_with fail
        go_roundw
        case rel => exact ⟨k + 1, by omega, by go_num, by trivial, HN2.out⟩
        case measure => simp [intOf]; omega
    · obtain rfl : k = a.length := by omega
      have hno : (58 : UInt8) ∉ a := by
        have := hH.out
        rwa [List.take_of_length_le (Nat.le_refl _)] at this
      have HSM := Lib.hid (line_same b P Q hno u)
      clear hkn hH hno
      have hcat := HCAT.out
      obtain ⟨p, q, r, hR⟩ : ∃ p q r, lineR (a ++ 58 :: b) = (p, q, r) := ⟨_, _, _, rfl⟩
      have HRR := Lib.hid hR
      unfold Lined at HL1
      rw [hR] at HL1 HSM
      clear hR
      cases u with
      | false =>
        have hcr : ((r != 0) = true) ∨ ((r != 0) = false) := by cases (r != 0) <;> simp
        go_wp2_with fail
        try rw [hcat]
        refine (HL1.out _ (HM.out _ hb1)).mono ?_
        rintro e w2 ⟨rfl, hbl2⟩
        have hb2 := hb1.trans (hbl2.mono hb1.size)
        go_wp2_with (first
          | (refine wpList_alloc_zero rfl _ rfl (fdA [] []) zero_fd ?_; intro w3 hg3 hb3 hz3)
          | (refine wpList_store_all rfl _ _ _ rfl w2.heap.size rfl _ _ _ rfl hg3 (size_fd _ _) rfl (fd_one _ _) ?_; intro w4 hg4 hgr4 hz4; have hb24 : Below w2.heap.size w2 w4 := hb3.grown hgr4 (by omega) (fun g hg => (by obtain rfl := Option.some.inj hg; exact Nat.le_refl _)); have hlt4 : w2.heap.size < w4.heap.size := (by omega); clear hg3 hb3 hz3 hgr4 hz4))
        have hb4 := hb2.trans (hb24.mono hb2.size)
        have hG := hg4
        refine (HBP.out _ hb4).mono ?_
        rintro e w6 ⟨rfl, hbl6⟩
        have hb6 := hb4.trans (hbl6.mono hb4.size)
        have hs6 := hbl6.size
        have hG6 := (hbl6.block _ hlt4).trans hG
        go_wp2_with fail
        refine (HBQ.out _ hb6).mono ?_
        rintro e w7 ⟨rfl, hbl7⟩
        have hb7 := hb6.trans (hbl7.mono hb6.size)
        have hs7 := hbl7.size
        have hG7 := (hbl7.block _ (by omega)).trans hG6
        have hcat2 : ((⟨(a).toArray⟩ : ByteArray) ++ ⟨#[58]⟩ ++ ⟨(blkL P).toArray⟩ ++ ⟨b.toArray⟩ ++ ⟨(blkL Q).toArray⟩) = ⟨(a ++ 58 :: (blkL P ++ (b ++ blkL Q))).toArray⟩ := by
          apply ByteArray.ext
          simp [ByteArray.data_append]
        have HL2 := Lib.hid (Line_any (a ++ 58 :: (blkL P ++ (b ++ blkL Q))) (by simp [hbl1, hbl2]; omega) w7 (HM.out _ hb7))
        unfold Lined at HL2
        rw [show lineR (a ++ 58 :: (blkL P ++ (b ++ blkL Q))) = (p, q, r) from HSM.out] at HL2
        go_wp2_with fail
        try rw [hcat2]
        refine HL2.out.mono ?_
        rintro e w8 ⟨rfl, hbl8⟩
        have hb8 := hb7.trans (hbl8.mono hb7.size)
        have hs8 := hbl8.size
        have hG8 := (hbl8.block _ (by omega)).trans hG7
        clear HL2 hG6 hG7 hcat2 hcat
        go_wp2_with (first
          | (refine wpList_alloc_zero rfl _ rfl (fdA [] []) zero_fd ?_; intro w9 hg9 hb9 hz9)
          | (refine wpList_store_all rfl _ _ _ rfl w8.heap.size rfl _ _ _ rfl hg9 (size_fd _ _) rfl (fd_one _ _) ?_; intro w10 hg10 hgr10 hz10; have hb810 : Below w8.heap.size w8 w10 := hb9.grown hgr10 (by omega) (fun g hg => (by obtain rfl := Option.some.inj hg; exact Nat.le_refl _)); have hG10 := (hb810.block _ (by omega)).trans hG8; rcases hcr with hcr | hcr)
          | (refine wpList_load_all rfl _ _ rfl w2.heap.size rfl _ _ _ _ hG10 Tryd.underlying24 rfl (size_fd _ _) ?_)
          | (refine wpList_load_all rfl _ _ rfl w8.heap.size rfl _ _ _ _ hg10 Tryd.underlying24 rfl (size_fd _ _) ?_)
          | (refine wpList_eql_fd rfl _ _ rfl rfl rfl ?_; rw [fdEq_self]))
        all_goals
          go_ret
          exact ⟨rfl, hb8.trans (hb810.mono hb8.size)⟩
      | true =>
        have hcr : ((r != 0) = true) ∨ ((r != 0) = false) := by cases (r != 0) <;> simp
        go_wp2_with fail
        try rw [hcat]
        refine (HL1.out _ (HM.out _ hb1)).mono ?_
        rintro e w2 ⟨rfl, hbl2⟩
        have hb2 := hb1.trans (hbl2.mono hb1.size)
        go_wp2_with (first
          | (refine wpList_alloc_zero rfl _ rfl (fdA [] []) zero_fd ?_; intro w3 hg3 hb3 hz3)
          | (refine wpList_store_all rfl _ _ _ rfl w2.heap.size rfl _ _ _ rfl hg3 (size_fd _ _) rfl (fd_one _ _) ?_; intro w4 hg4 hgr4 hz4; have hb24 : Below w2.heap.size w2 w4 := hb3.grown hgr4 (by omega) (fun g hg => (by obtain rfl := Option.some.inj hg; exact Nat.le_refl _)); have hlt4 : w2.heap.size < w4.heap.size := (by omega); clear hg3 hb3 hz3 hgr4 hz4)
          | (refine wpList_s2b rfl _ rfl Tryd.underlying9 Tryd.underlying32 Tryd.underlying5 ⟨a.toArray⟩ rfl (by rw [size_mk]; omega) ?_; intro c5 w5 ho5 hb5; rw [size_mk] at ho5 ⊢; generalize (some (⟨w4.heap.size, 0, none⟩ : Addr)) = A5 at ho5 ⊢))
        have hb4 := hb2.trans (hb24.mono hb2.size)
        obtain ⟨N, hN⟩ : ∃ N, a.length = N := ⟨_, rfl⟩
        rw [hN] at ho5
        have HN := Lib.hid hN
        have hNI : (a.length : Int) = N := by omega
        have hNb : N ≤ 1024 := by omega
        simp only [hN, hNI]
        go_loopw [16] (fun i wr => ∃ k : Nat, k ≤ N ∧ i = .int .i64 k ∧ Own wr w4.heap.size 5 1 A5 N c5 ((upL (a.take k) ++ a.drop k).map b8) ∧ Below w4.heap.size w4 wr) (fun i _ => N - (intOf i).toNat)
        case atStart => exact ⟨0, by omega, rfl, by simpa [upL] using ho5, hb5⟩
        case round =>
          obtain ⟨k, hk, rfl, ho, hb⟩ := hrel
          clear ho5 hb5 hcat hN hNI
          by_cases hkn : k < N
          · have hx : a[k]? = some (a[k]'(by rw [HN.out]; exact hkn)) := List.getElem?_eq_getElem _
            generalize a[k]'(by rw [HN.out]; exact hkn) = x at hx
            obtain ⟨hm1, hm2⟩ := up_mid hx
            have hPl : (upL (a.take k)).length = k := by unfold upL; rw [List.length_map, List.length_take, HN.out]; omega
            have hcell := ho.rd.cell k (b8 x) (by
              rw [hm1, List.map_append, List.getElem?_append_right (by rw [List.length_map, hPl]; exact Nat.le_refl _), List.length_map, hPl, Nat.sub_self]
              rfl)
            have hidx := run_index_rd (P := Tryd.prog) (A := A5) (n := N) (c := c5) eb ho.rd.nil ho.rd.le k hkn
            rw [Nat.mul_one] at hidx
            have hle := ho.rd.le
            have hfr := ho.free (k := k) (by omega)
            have hst := ho.store (k := k) (by omega) (b8 (upB x))
            have hbs := below_store hb ho (k := k) (by omega) (b8 (upB x))
            have hst2 : Own (wr.setCell (at_ A5 k) (b8 (upB x))) w4.heap.size 5 1 A5 N c5 ((upL (a.take (k + 1)) ++ a.drop (k + 1)).map b8) := by
              rw [hm2, ← set_mid _ _ x, hPl, List.map_set, ← hm1]
              exact hst
            have hkeep : upB x = x → Own wr w4.heap.size 5 1 A5 N c5 ((upL (a.take (k + 1)) ++ a.drop (k + 1)).map b8) := fun h => by
              rw [hm2, h, ← hm1]
              exact ho
            have hk' : (k : Int) < N := by omega
            have HST := Lib.hid hst2
            have HBS := Lib.hid hbs
            have HKE := Lib.hid hkeep
            unfold b8 at hcell
            clear hx hm1 hm2 hPl hst hst2 hbs hkeep hkn hcr
            have hxb : (x.toNat : Int) ≤ 255 := by have := x.toNat_lt; omega
            rcases down_case x with ⟨⟨u1, u2⟩, hv⟩ | ⟨u1, hv⟩ | ⟨⟨u1, u2⟩, hv⟩
            · have HY := Lib.hid hv
              clear hv
              go_wp2_with fail
              rw [HY.out]
              go_roundw
              case rel => exact ⟨k + 1, by omega, by go_num, HST.out, HBS.out⟩
              case measure => simp [intOf]; omega
            · have HO := Lib.hid (HKE.out hv)
              clear hv
              go_wp2_with fail
              go_roundw
              case rel => exact ⟨k + 1, by omega, by go_num, HO.out, hb⟩
              case measure => simp [intOf]; omega
            · have HO := Lib.hid (HKE.out hv)
              clear hv
              go_wp2_with fail
              go_roundw
              case rel => exact ⟨k + 1, by omega, by go_num, HO.out, hb⟩
              case measure => simp [intOf]; omega
          · obtain rfl : k = N := by omega
            have e : upL (a.take k) ++ a.drop k = upL a := by rw [List.take_of_length_le (by rw [HN.out]; exact Nat.le_refl _), List.drop_eq_nil_of_le (by rw [HN.out]; exact Nat.le_refl _), List.append_nil]
            rw [e] at ho
            have hsr := str_rd ho.rd
            have hzu : (⟨(upL a).toArray⟩ : ByteArray).size = k := by rw [size_mk]; unfold upL; rw [List.length_map, HN.out]
            have hlu : (upL a).length = k := by unfold upL; rw [List.length_map, HN.out]
            have hb5 := hb4.trans (hb.mono hb4.size)
            have hs5 := hb.size
            have hlt5 : w2.heap.size < wr.heap.size := by omega
            have hG := (hb.block _ hlt4).trans hg4
            have hcat := True.intro
            clear e hkn
            go_wp2_with fail
            refine (HBP.out _ hb5).mono ?_
            rintro e w6 ⟨rfl, hbl6⟩
            have hb6 := hb5.trans (hbl6.mono hb5.size)
            have hs6 := hbl6.size
            have hG6 := (hbl6.block _ hlt5).trans hG
            go_wp2_with fail
            refine (HBQ.out _ hb6).mono ?_
            rintro e w7 ⟨rfl, hbl7⟩
            have hb7 := hb6.trans (hbl7.mono hb6.size)
            have hs7 := hbl7.size
            have hG7 := (hbl7.block _ (by omega)).trans hG6
            have hcat2 : ((⟨(upL a).toArray⟩ : ByteArray) ++ ⟨#[58]⟩ ++ ⟨(blkL P).toArray⟩ ++ ⟨b.toArray⟩ ++ ⟨(blkL Q).toArray⟩) = ⟨(upL a ++ 58 :: (blkL P ++ (b ++ blkL Q))).toArray⟩ := by
              apply ByteArray.ext
              simp [ByteArray.data_append]
            have HL2 := Lib.hid (Line_any (upL a ++ 58 :: (blkL P ++ (b ++ blkL Q))) (by simp [hbl1, hbl2, hlu]; omega) w7 (HM.out _ hb7))
            unfold Lined at HL2
            rw [show lineR (upL a ++ 58 :: (blkL P ++ (b ++ blkL Q))) = (p, q, r) from HSM.out] at HL2
            go_wp2_with fail
            try rw [hcat2]
            refine HL2.out.mono ?_
            rintro e w8 ⟨rfl, hbl8⟩
            have hb8 := hb7.trans (hbl8.mono hb7.size)
            have hs8 := hbl8.size
            have hG8 := (hbl8.block _ (by omega)).trans hG7
            clear HL2 hG6 hG7 hcat2 hcat
            go_wp2_with (first
              | (refine wpList_alloc_zero rfl _ rfl (fdA [] []) zero_fd ?_; intro w9 hg9 hb9 hz9)
              | (refine wpList_store_all rfl _ _ _ rfl w8.heap.size rfl _ _ _ rfl hg9 (size_fd _ _) rfl (fd_one _ _) ?_; intro w10 hg10 hgr10 hz10; have hb810 : Below w8.heap.size w8 w10 := hb9.grown hgr10 (by omega) (fun g hg => (by obtain rfl := Option.some.inj hg; exact Nat.le_refl _)); have hG10 := (hb810.block _ (by omega)).trans hG8; rcases hcr with hcr | hcr)
              | (refine wpList_load_all rfl _ _ rfl w2.heap.size rfl _ _ _ _ hG10 Tryd.underlying24 rfl (size_fd _ _) ?_)
              | (refine wpList_load_all rfl _ _ rfl w8.heap.size rfl _ _ _ _ hg10 Tryd.underlying24 rfl (size_fd _ _) ?_)
              | (refine wpList_eql_fd rfl _ _ rfl rfl rfl ?_; rw [fdEq_self]))
            all_goals
              go_ret
              exact ⟨rfl, hb8.trans (hb810.mono hb8.size)⟩

end Go.Proofs.YtpidakfpoihdkaaDoor
