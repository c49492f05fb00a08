/-
  Package field: Words.
-/
import Derived.Test.YtpidakfpoihdkaaDoorFiB
namespace Go.Proofs.YtpidakfpoihdkaaDoor
open Go.RowKit

def strV (l : List UInt8) : Value := .string ⟨l.toArray⟩
theorem strV_one (l : List (List UInt8)) : ∀ u ∈ l.map strV, u.oneCell' = true := by
  intro u hu
  obtain ⟨_, _, rfl⟩ := List.mem_map.1 hu
  rfl
theorem es : ElemT Tryd.prog 29 9 (.string ByteArray.empty) 1 16 := ElemT.of Tryd.underlying29 (by kernel_rfl) rfl (by omega)
/-- The words that pieces say. -/
def wordsF : List (List UInt8) → List (List UInt8)
  | [] => []
  | p :: ps => if trimL p = [] then wordsF ps else smallL (trimL p) :: wordsF ps
theorem wordsF_app : ∀ a b : List (List UInt8), wordsF (a ++ b) = wordsF a ++ wordsF b
  | [], b => rfl
  | p :: a, b => by
    rw [List.cons_append, wordsF, wordsF, wordsF_app a b]
    split <;> rfl
theorem trimR_le (l : List UInt8) : (Lib.trimRightS l blk2).length ≤ l.length := by
  rw [trimR_eq, List.length_reverse]
  have := (List.dropWhile_suffix (l := l.reverse) isB).length_le
  simpa using this
theorem trimL_le (l : List UInt8) : (trimL l).length ≤ l.length := by
  have h1 := (List.dropWhile_suffix (l := Lib.trimRightS l blk2) isB).length_le
  have h2 := trimR_le l
  have e : trimL l = (Lib.trimRightS l blk2).dropWhile isB := rfl
  rw [e]
  omega
theorem split1_le (c : UInt8) : ∀ l, (split1 c l).length ≤ l.length + 1 ∧ ∀ p ∈ split1 c l, p.length ≤ l.length
  | [] => ⟨by simp [split1], fun p hp => by simp [split1] at hp; simp [hp]⟩
  | x :: l => by
    obtain ⟨h1, h2⟩ := split1_le c l
    rw [split1]
    split
    · refine ⟨by simpa using h1, fun p hp => ?_⟩
      rcases List.mem_cons.1 hp with rfl | hp
      · simp
      · have := h2 p hp
        simp
        omega
    · split
      · rename_i q ps hq
        rw [hq] at h1 h2
        refine ⟨by simp at h1 ⊢; omega, fun p hp => ?_⟩
        rcases List.mem_cons.1 hp with rfl | hp
        · have := h2 q (by simp)
          simpa using this
        · have := h2 p (by simp [hp])
          simp
          omega
      · refine ⟨by simp, fun p hp => ?_⟩
        obtain rfl : p = [x] := by simpa using hp
        simp
theorem wordsF_len : ∀ ps, (wordsF ps).length ≤ ps.length
  | [] => Nat.le_refl _
  | p :: ps => by
    have := wordsF_len ps
    rw [wordsF]
    split <;> (simp; omega)

set_option maxRecDepth 20000 in
set_option maxHeartbeats 8000000 in
theorem Words_any (s : List UInt8) (hs : s.length ≤ 1048576) (w : World) (hm : Mx w) : Calls Tryd.prog 11 #[.string ⟨s.toArray⟩] w fun e w' => ∃ A n c, e = .returned (.slice A n c) ∧ Own w' w.heap.size 9 1 A n c ((wordsF (split1 44 s)).map strV) ∧ Below w.heap.size w w' := by
  have HSP := Lib.hid (Split_any 44 s (by omega) w hm)
  obtain ⟨hpl, hpe⟩ := split1_le 44 s
  obtain ⟨P, hP⟩ : ∃ P, split1 44 s = P := ⟨_, rfl⟩
  rw [hP] at HSP hpl hpe ⊢
  obtain ⟨N, hN⟩ : ∃ N, P.length = N := ⟨_, rfl⟩
  rw [hN] at HSP hpl
  have HN := Lib.hid hN
  have hN1 : N ≤ 1048577 := by omega
  have HPE := Lib.hid (fun p hp => (Nat.le_trans (hpe p hp) hs : p.length ≤ 1048576))
  clear hP hN hm hpe hpl hs
  go_enter Tryd.func11, Tryd.ntmps11
  go_wp2_with fail
  refine HSP.out.mono ?_
  rintro e w1 ⟨rfl, hw1⟩
  have hrd : Rd w1 1 (some ⟨w.heap.size, 0, none⟩) N N (P.map strV) := by
    rw [hw1]
    exact Rd.lit w _ _ N (by rw [List.length_map, HN.out]) (by unfold maxLen; omega)
  have hb1 : Below w.heap.size w w1 := by rw [hw1]; exact (Below.refl _ _).alloc (Nat.le_refl _) _
  clear hw1
  obtain ⟨A1, hA1⟩ : ∃ A1, (some ⟨w.heap.size, 0, none⟩ : Option Addr) = A1 := ⟨_, rfl⟩
  rw [hA1] at hrd ⊢
  have hs1 := hb1.size
  clear hA1 HSP
  go_wp2_with fail
  go_loopw [3, 9] (fun l i wr => ∃ (k : Nat) (A : Option Addr) (n c : Nat), k ≤ N ∧ l = .slice A n c ∧ i = .int .i64 k ∧ Own wr w1.heap.size 9 1 A n c ((wordsF (P.take k)).map strV) ∧ n ≤ k ∧ Below w1.heap.size w1 wr) (fun _ i _ => N - (intOf i).toNat)
  case atStart => exact ⟨0, none, 0, 0, by omega, rfl, rfl, Own.nil_ _ _ _ _, by omega, Below.refl _ _⟩
  case round =>
    obtain ⟨k, A, n, c, hk, rfl, rfl, ho, hn, hb⟩ := hrel
    by_cases hkN : k < N
    · have hx : P[k]? = some (P[k]'(by rw [HN.out]; exact hkN)) := List.getElem?_eq_getElem _
      generalize P[k]'(by rw [HN.out]; exact hkN) = p at hx
      have hidx := run_index_rd (P := Tryd.prog) (A := A1) (n := N) (c := N) es hrd.nil hrd.le k hkN
      rw [Nat.mul_one] at hidx
      have hcell := (hrd.below hb).cell k (strV p) (by rw [List.getElem?_map, hx]; rfl)
      have hpl := HPE.out p (List.mem_of_getElem? hx)
      have htl := trimL_le p
      have HT := Lib.hid (fun W => Trim_any p (by omega) W)
      obtain ⟨q, hq⟩ : ∃ q, trimL p = q := ⟨_, rfl⟩
      rw [hq] at HT htl
      have hnext : wordsF (P.take (k + 1)) = wordsF (P.take k) ++ if q = [] then [] else [smallL q] := by
        obtain ⟨hk2, hx2⟩ := List.getElem?_eq_some_iff.1 hx
        rw [List.take_succ_eq_append_getElem hk2, wordsF_app, hx2, wordsF, hq]
        split <;> rfl
      have HNX := Lib.hid hnext
      have hk' : (k : Int) < N := by omega
      have hs1r := hb.size
      unfold strV at hcell
      clear hx hkN hq hnext
      by_cases hqe : q = []
      · have HNX2 : Hid (wordsF (P.take (k + 1)) = wordsF (P.take k)) := by
          show _ = _
          rw [HNX.out, if_pos hqe, List.append_nil]
        subst hqe
        clear HNX
        go_wp2_with fail
        refine (HT.out _).mono ?_
        rintro e w2 ⟨rfl, hb2⟩
        have hb12 := hb.trans (hb2.mono hb.size)
        have ho2 := ho.below hb2
        rw [← HNX2.out] at ho2
        clear hb2
        go_wp2_with fail
        go_roundw
        case rel => exact ⟨k + 1, A, n, c, by omega, rfl, by go_num, ho2, by omega, hb12⟩
        case measure => simp [intOf]; omega
      · have HNX2 : Hid (wordsF (P.take (k + 1)) = wordsF (P.take k) ++ [smallL q]) := by
          show _ = _
          rw [HNX.out, if_neg hqe]
        have hqi : q.isEmpty = false := by
          cases q with
          | nil => exact absurd rfl hqe
          | cons x l => rfl
        have HS := Lib.hid (fun W => small_any q (by omega) W)
        clear HNX hqe
        go_wp2_with fail
        refine (HT.out _).mono ?_
        rintro e w2 ⟨rfl, hb2⟩
        have hb12 := hb.trans (hb2.mono hb.size)
        have ho2 := ho.below hb2
        clear hb2
        go_wp2_with fail
        refine (HS.out _).mono ?_
        rintro e w3 ⟨rfl, hb3⟩
        have hb13 := hb12.trans (hb3.mono hb12.size)
        have ho3 := ho2.below hb3
        clear hb3 hcell
        go_wp2_with (at_builtin; refine wpList_app rfl _ _ rfl es (ho3.alloc _) rfl (Rd.lit _ [_] _ 1 rfl (by unfold maxLen; omega)) rfl (by simp [Value.oneCell']) (by omega) (by unfold maxLen; omega) (by have := hb13.size; simp; omega) ?_; intro A4 c4 w4 ho4 hg4 hq4; have hb4 := below_app hb13 (Nat.le_refl _) ho3 hg4)
        have ho5 : Own w4 w1.heap.size 9 1 A4 (n + 1) c4 ((wordsF (P.take (k + 1))).map strV) := by
          rw [HNX2.out, List.map_append]
          exact ho4
        go_roundw
        case rel => exact ⟨k + 1, A4, n + 1, c4, by omega, rfl, by go_num, ho5, by omega, hb4⟩
        case measure => simp [intOf]; omega
    · obtain rfl : k = N := by omega
      rw [List.take_of_length_le (by rw [HN.out]; exact Nat.le_refl _)] at ho
      clear hkN
      go_wp2_with fail
      go_ret
      exact ⟨A, n, c, rfl, ho.mono hs1, hb1.trans (hb.mono hs1)⟩

end Go.Proofs.YtpidakfpoihdkaaDoor
