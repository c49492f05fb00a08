/-
  The law FieldJoins.
-/
import Derived.Test.YtpidakfpoihdkaaDoorFiG
import Derived.Test.YtpidakfpoihdkaaDoorFiI
import Derived.Test.YtpidakfpoihdkaaDoorShap
namespace Go.Proofs.YtpidakfpoihdkaaDoor
open Go.RowKit

theorem mx_of {w : World} (h : w.ShapedOpen Tryd.checked.prog) : Mx w :=
  Go.Proofs.cell_of_shapedOpen_int (zero := #[.int .i64 0]) (t := 3) h (of_decide_eq_true (by kernel_rfl)) (by kernel_rfl) rfl (by kernel_rfl) (by kernel_rfl) Tryd.underlying3
theorem split1_join (c : UInt8) : ∀ a b : List UInt8, split1 c (a ++ c :: b) = split1 c a ++ split1 c b
  | [], b => by
    show split1 c (c :: b) = [] :: split1 c b
    rw [split1, if_pos rfl]
  | x :: a, b => by
    rw [List.cons_append, split1, split1_join c a b, split1]
    split
    · rfl
    · cases h : split1 c a with
      | nil => exact absurd h (split1_ne c a)
      | cons q ps => rfl
theorem smallL_ne {l : List UInt8} (h : l ≠ []) : smallL l ≠ [] := by
  cases l with
  | nil => exact absurd rfl h
  | cons x l => exact List.cons_ne_nil _ _
theorem wordsF_ne : ∀ (ps : List (List UInt8)) (x : List UInt8), x ∈ wordsF ps → x ≠ []
  | [], x, h => by cases h
  | p :: ps, x, h => by
    rw [wordsF] at h
    split at h
    · exact wordsF_ne ps x h
    · rename_i hp
      rcases List.mem_cons.1 h with rfl | h
      · exact smallL_ne hp
      · exact wordsF_ne ps x h

set_option maxRecDepth 20000 in
set_option maxHeartbeats 8000000 in
theorem fieldJoins_walk {w : World} (hm : Mx w) (s : ByteArray) (_ : s.size ≤ maxLen) (s' : ByteArray) (_ : s'.size ≤ maxLen) :
    Calls Tryd.prog 6 #[.string s, .string s'] w fun e w' => e = .returned (.bool true) ∧ Below w.heap.size w w' := by
  obtain ⟨l, rfl⟩ : ∃ l : List UInt8, s = ⟨l.toArray⟩ := ⟨s.data.toList, by cases s; simp⟩
  obtain ⟨m, rfl⟩ : ∃ l : List UInt8, s' = ⟨l.toArray⟩ := ⟨s'.data.toList, by cases s'; simp⟩
  have HM := Lib.hid (fun W (hb : Below w.heap.size w W) => hm.below hb)
  have HB := Lib.hid (begun_any w hm)
  have hz := size_mk l
  have hz' := size_mk m
  clear hm
  by_cases hn : (1024 : Int) < l.length
  · have hn' : decide ((1024 : Int) < l.length) = true := decide_eq_true hn
    clear hn
    go_enter Tryd.func6, Tryd.ntmps6
    go_wp2_with fail
    refine HB.out.mono ?_
    rintro e w1 ⟨rfl, hb1⟩
    go_wp2_with fail
    go_ret
    exact ⟨rfl, hb1⟩
  have hn' : decide ((1024 : Int) < l.length) = false := decide_eq_false hn
  by_cases hk : (1024 : Int) < m.length
  · have hk' : decide ((1024 : Int) < m.length) = true := decide_eq_true hk
    clear hn hk
    go_enter Tryd.func6, Tryd.ntmps6
    go_wp2_with fail
    refine HB.out.mono ?_
    rintro e w1 ⟨rfl, hb1⟩
    go_wp2_with fail
    go_ret
    exact ⟨rfl, hb1⟩
  have hk' : decide ((1024 : Int) < m.length) = false := decide_eq_false hk
  have hn2 : l.length ≤ 1024 := by omega
  have hk2 : m.length ≤ 1024 := by omega
  have hL : (wordsF (split1 44 l)).length ≤ 1025 := by
    have h1 := wordsF_len (split1 44 l)
    have h2 := (split1_le 44 l).1
    omega
  have hK : (wordsF (split1 44 m)).length ≤ 1025 := by
    have h1 := wordsF_len (split1 44 m)
    have h2 := (split1_le 44 m).1
    omega
  have HWA := Lib.hid (fun W h => Words_any l (by omega) W h)
  have HWB := Lib.hid (fun W h => Words_any m (by omega) W h)
  have HWC := Lib.hid (fun W h => Words_any (l ++ 44 :: m) (by simp; omega) W h)
  rw [split1_join, wordsF_app] at HWC
  have HNA := Lib.hid (wordsF_ne (split1 44 l))
  have HNB := Lib.hid (wordsF_ne (split1 44 m))
  obtain ⟨L, hR⟩ : ∃ L, wordsF (split1 44 l) = L := ⟨_, rfl⟩
  obtain ⟨K, hS⟩ : ∃ L, wordsF (split1 44 m) = L := ⟨_, rfl⟩
  rw [hR] at HWA HWC HNA hL
  rw [hS] at HWB HWC HNB hK
  have HNN : Hid (∀ x ∈ L ++ K, x ≠ []) := fun x hx => by
    rcases List.mem_append.1 hx with hx | hx
    · exact HNA.out x hx
    · exact HNB.out x hx
  have hcat : ((⟨l.toArray⟩ : ByteArray) ++ ⟨#[44]⟩ ++ ⟨m.toArray⟩) = ⟨(l ++ 44 :: m).toArray⟩ := by
    apply ByteArray.ext
    apply Array.ext'
    simp [ByteArray.data_append]
  clear hn hk hR hS HNA HNB
  go_enter Tryd.func6, Tryd.ntmps6
  go_wp2_with fail
  refine HB.out.mono ?_
  rintro e w1 ⟨rfl, hb1⟩
  go_wp2_with fail
  refine (HWA.out _ (HM.out _ hb1)).mono ?_
  rintro e w2 ⟨A, n, c, rfl, hoA, hbl2⟩
  have hb2 := hb1.trans (hbl2.mono hb1.size)
  go_wp2_with fail
  refine (HWB.out _ (HM.out _ hb2)).mono ?_
  rintro e w3 ⟨B, n', c', rfl, hoB, hbl3⟩
  have hb3 := hb2.trans (hbl3.mono hb2.size)
  go_wp2_with fail
  try rw [hcat]
  refine (HWC.out _ (HM.out _ hb3)).mono ?_
  rintro e w4 ⟨C, n4, c4, rfl, hoC, hbl4⟩
  have hb4 := hb3.trans (hbl4.mono hb3.size)
  obtain rfl : L.length = n := by simpa using hoA.rd.len
  obtain rfl : K.length = n' := by simpa using hoB.rd.len
  obtain rfl : (L ++ K).length = n4 := by simpa using hoC.rd.len
  have hrA := (hoA.below (hbl3.trans (hbl4.mono hbl3.size))).rd
  have hrB := (hoB.below hbl4).rd
  have hltC : ∀ g, blk C = some g → g < w4.heap.size := fun g hg => (hoC.lt g hg).2
  have hrC := hoC.rd
  have HIA := Lib.hid (strV_one L)
  have HIB := Lib.hid (strV_one K)
  obtain ⟨N, hN⟩ : ∃ N, L.length = N := ⟨_, rfl⟩
  obtain ⟨N2, hN2⟩ : ∃ N, K.length = N := ⟨_, rfl⟩
  obtain ⟨N3, hN3⟩ : ∃ N, (L ++ K).length = N := ⟨_, rfl⟩
  have hNN : N3 = N + N2 := by rw [← hN3, List.length_append, hN, hN2]
  rw [hNN] at hN3
  rw [hN3] at hrC ⊢
  rw [hN2] at hrB hK ⊢
  rw [hN] at hrA hL ⊢
  have HN3 := Lib.hid hN3
  have hN2a : N2 ≤ 1025 := hK
  have hNa : N ≤ 1025 := hL
  clear hoA hoB hoC hN hN2 hN3 hNN hcat hbl2 hbl3 hbl4 hK hL HWA HWB HWC
  go_wp2_with (first
    | (at_builtin; refine wpList_app rfl _ _ rfl es (Own.lit w4 w4.heap.size [] _ 0 rfl (by unfold maxLen; omega) (Nat.le_refl _)) rfl (hrA.alloc _) rfl HIA.out (by omega) (by unfold maxLen; omega) (by simp) ?_; intro A5 c5 w5 ho5 hg5 hq5; rw [Nat.zero_add, List.nil_append] at ho5; rw [Nat.zero_add]; have hb5 : Below w4.heap.size w4 w5 := ((Below.refl w4.heap.size w4).alloc (Nat.le_refl _) _).grown hg5 (by simp) (fun g hg => (by obtain rfl := Option.some.inj hg; exact Nat.le_refl _)); clear hg5 hq5)
    | (at_builtin; refine wpList_app rfl _ _ rfl es ho5 rfl (hrB.below hb5) rfl HIB.out (by omega) (by unfold maxLen; omega) hb5.size ?_; intro A6 c6 w6 ho6 hg6 hq6; rw [← List.map_append] at ho6; have hb6 : Below w4.heap.size w4 w6 := hb5.grown hg6 hb5.size (fun g hg => (ho5.lt g hg).1); clear hg6 hq6 ho5))
  obtain ⟨M3, hM3⟩ : ∃ M3, N + N2 = M3 := ⟨_, rfl⟩
  rw [hM3] at hrC ho6 HN3 ⊢
  have hrC6 := hrC.below hb6
  have hr6 := ho6.rd
  have hbz := hb4.trans (hb6.mono hb4.size)
  have hN3a : M3 ≤ 2050 := by omega
  clear hrC hrA hrB ho6 hb6 hb5 hM3 HIA HIB hN2a hNa
  go_loopw [9] (fun j wr => ∃ q : Nat, q ≤ M3 ∧ j = .int .i64 q ∧ Below w6.heap.size w6 wr) (fun j _ => M3 - (intOf j).toNat)
  case atStart => exact ⟨0, by omega, rfl, Below.refl _ _⟩
  case round =>
    obtain ⟨q, hq, rfl, hbq⟩ := hrel
    by_cases hqn : q < M3
    · have hqL : q < (L ++ K).length := by rw [HN3.out]; exact hqn
      have hx : (L ++ K)[q]? = some ((L ++ K)[q]'hqL) := List.getElem?_eq_getElem _
      have hxn : ((L ++ K)[q]'hqL).isEmpty = false := emp_no' (HNN.out _ (List.getElem_mem _))
      generalize (L ++ K)[q]'hqL = x at hx hxn
      have hidxA := run_index_rd (P := Tryd.prog) (A := A6) (n := M3) (c := c6) es hr6.nil hr6.le q hqn
      have hidxB := run_index_rd (P := Tryd.prog) (A := C) (n := M3) (c := c4) es hrC6.nil hrC6.le q hqn
      rw [Nat.mul_one] at hidxA hidxB
      have hcA := (hr6.below hbq.drew).cell q (strV x) (by rw [List.getElem?_map, hx]; rfl)
      have hcB := (hrC6.below hbq.drew).cell q (strV x) (by rw [List.getElem?_map, hx]; rfl)
      have hcA0 := (hr6.below hbq).cell q (strV x) (by rw [List.getElem?_map, hx]; rfl)
      have hcB0 := (hrC6.below hbq).cell q (strV x) (by rw [List.getElem?_map, hx]; rfl)
      have hq' : (q : Int) < M3 := by omega
      unfold strV at hcA hcB hcA0 hcB0
      have hbD := hbq.drew
      clear hx hqn
      go_wp2_with fail
      go_region
      all_goals
        go_wp2_with fail
        go_round
        case rel => exact ⟨q + 1, by omega, by go_num, hbD⟩
        case measure => simp [intOf]; omega
    · obtain rfl : q = M3 := by omega
      clear hqn
      go_wp2_with fail
      go_ret
      exact ⟨rfl, hbz.trans (hbq.mono hbz.size)⟩

end Go.Proofs.YtpidakfpoihdkaaDoor
