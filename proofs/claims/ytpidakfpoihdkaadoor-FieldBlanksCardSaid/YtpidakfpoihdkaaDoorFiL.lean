/-
  Package field: blanks round a value, a name in great letters; the law's blanks.
-/
import Derived.Test.YtpidakfpoihdkaaDoorFiG
namespace Go.Proofs.YtpidakfpoihdkaaDoor
open Go.RowKit

def upB (x : UInt8) : UInt8 := if 97 ≤ x.toNat ∧ x.toNat ≤ 122 then x - 32 else x
def upL (l : List UInt8) : List UInt8 := l.map upB
def chk (x : UInt8) : Bool := (okN (upB x) == okN x) && (lowB (upB x) == lowB x) && (decide (upB x = 58) == decide (x = 58))
theorem chk_fin : ∀ c : Fin 256, chk (UInt8.ofNat c.1) = true := by decide +kernel
theorem chk_all (x : UInt8) : chk x = true := by
  have := chk_fin ⟨x.toNat, x.toNat_lt⟩
  have e : UInt8.ofNat x.toNat = x := by simp
  dsimp only at this
  rwa [e] at this
theorem okN_up (x : UInt8) : okN (upB x) = okN x := by
  have := chk_all x
  simp only [chk, Bool.and_eq_true, beq_iff_eq] at this
  exact this.1.1
theorem low_up (x : UInt8) : lowB (upB x) = lowB x := by
  have := chk_all x
  simp only [chk, Bool.and_eq_true, beq_iff_eq] at this
  exact this.1.2
theorem up_58 {x : UInt8} (h : x ≠ 58) : upB x ≠ 58 := by
  have := chk_all x
  simp only [chk, Bool.and_eq_true, beq_iff_eq] at this
  intro e
  have h2 := this.2
  rw [decide_eq_true e] at h2
  exact h (of_decide_eq_true h2.symm)
def blkL (bs : List Bool) : List UInt8 := bs.map fun b => if b then 32 else 9
theorem blkL_all (bs : List Bool) : ∀ x ∈ blkL bs, isB x = true ∧ okV x = true := by
  intro x hx
  obtain ⟨b, _, rfl⟩ := List.mem_map.1 hx
  cases b <;> decide
theorem dw_app {p : UInt8 → Bool} : ∀ {a : List UInt8} (b : List UInt8), (∀ x ∈ a, p x = true) → (a ++ b).dropWhile p = b.dropWhile p
  | [], b, _ => rfl
  | x :: a, b, h => by
    rw [List.cons_append, List.dropWhile_cons, if_pos (h x (by simp))]
    exact dw_app b (fun y hy => h y (by simp [hy]))
theorem trim_blk (P Q : List Bool) (b : List UInt8) : trimL (blkL P ++ (b ++ blkL Q)) = trimL b := by
  rw [trim_other, dw_app _ (fun x hx => (blkL_all P x hx).1), ← trim_other]
  have e1 : trimL (b ++ blkL Q) = (Lib.trimRightS (b ++ blkL Q) blk2).dropWhile isB := rfl
  have e2 : trimL b = (Lib.trimRightS b blk2).dropWhile isB := rfl
  rw [e1, e2, trimR_eq, trimR_eq, List.reverse_append, dw_app _ (fun x hx => (blkL_all Q x (List.mem_reverse.1 hx)).1)]
theorem all_blk (P Q : List Bool) (b : List UInt8) : (blkL P ++ (b ++ blkL Q)).all okV = b.all okV := by
  have h1 : (blkL P).all okV = true := List.all_eq_true.2 fun x hx => (blkL_all P x hx).2
  have h2 : (blkL Q).all okV = true := List.all_eq_true.2 fun x hx => (blkL_all Q x hx).2
  rw [List.all_append, List.all_append, h1, h2, Bool.true_and, Bool.and_true]
theorem cut1_first (c : UInt8) : ∀ (P R : List UInt8), c ∉ P → cut1 c (P ++ c :: R) = (P, R, true)
  | [], R, _ => by
    rw [List.nil_append, cut1, if_pos rfl]
  | x :: P, R, h => by
    have hx : x ≠ c := fun e => h (by simp [e])
    rw [List.cons_append, cut1, if_neg hx, cut1_first c P R (fun e => h (by simp [e]))]
theorem small_up (l : List UInt8) : smallL (upL l) = smallL l := by
  unfold smallL upL
  rw [List.map_map]
  exact List.map_congr_left fun x _ => low_up x
theorem all_up (l : List UInt8) : (upL l).all okN = l.all okN := by
  unfold upL
  rw [List.all_map]
  congr 1
  funext x
  exact okN_up x
theorem up_no {l : List UInt8} (h : (58 : UInt8) ∉ l) : (58 : UInt8) ∉ upL l := fun hm => by
  obtain ⟨x, hx, he⟩ := List.mem_map.1 hm
  exact up_58 (x := x) (fun e => h (e ▸ hx)) he
/-- A line says the same with its name in great letters and blanks round its value. -/
theorem line_same {a : List UInt8} (b : List UInt8) (P Q : List Bool) (ha : (58 : UInt8) ∉ a) (u : Bool) :
    lineR ((if u then upL a else a) ++ 58 :: (blkL P ++ (b ++ blkL Q))) = lineR (a ++ 58 :: b) := by
  have hu : (58 : UInt8) ∉ (if u then upL a else a) := by cases u <;> simp [ha, up_no ha]
  unfold lineR
  rw [cut1_first 58 _ _ hu, cut1_first 58 _ _ ha]
  dsimp only
  rw [all_blk, trim_blk]
  cases u
  · rfl
  · have e : (upL a ≠ []) = (a ≠ []) := by
      unfold upL
      simp
    simp only [if_true, all_up, small_up, e]

set_option maxRecDepth 20000 in
set_option maxHeartbeats 4000000 in
theorem blanks_any {w : World} {A : Option Addr} {n c : Nat} {l : List Bool} (h : Rd w 1 A n c (l.map Value.bool)) (hn : n ≤ 1000) :
    Calls Tryd.prog 13 #[.slice A n c] w fun e w' => e = .returned (.string ⟨(blkL l).toArray⟩) ∧ Below w.heap.size w w' := by
  have hl : l.length = n := by simpa using h.len
  have HN := Lib.hid hl
  clear hl
  have eb : ElemT Tryd.prog 31 4 (.bool false) 1 1 := ElemT.of Tryd.underlying31 (by kernel_rfl) rfl (by omega)
  go_enter Tryd.func13, Tryd.ntmps13
  go_wp2_with fail
  go_loopw [3, 4] (fun s i wr => ∃ k : Nat, k ≤ n ∧ s = .string ⟨(blkL (l.take k)).toArray⟩ ∧ i = .int .i64 k ∧ Below w.heap.size w wr) (fun _ i _ => n - (intOf i).toNat)
  case atStart => exact ⟨0, by omega, rfl, rfl, Below.refl _ _⟩
  case round =>
    obtain ⟨k, hk, rfl, rfl, hb⟩ := hrel
    by_cases hkn : k < n
    · have hkl : k < l.length := by rw [HN.out]; exact hkn
      have hx : l[k]? = some (l[k]'hkl) := List.getElem?_eq_getElem _
      have hnext : blkL (l.take (k + 1)) = blkL (l.take k) ++ [if l[k]'hkl then 32 else 9] := by
        unfold blkL
        rw [List.take_succ_eq_append_getElem hkl, List.map_append]
        rfl
      generalize l[k]'hkl = x at hx hnext
      have hidx := run_index_rd (P := Tryd.prog) (A := A) (n := n) (c := c) eb h.nil h.le k hkn
      rw [Nat.mul_one] at hidx
      have hcell := (h.below hb).cell k (.bool x) (by rw [List.getElem?_map, hx]; rfl)
      have hk' : (k : Int) < n := by omega
      have HNX := Lib.hid hnext
      have hz : (⟨(blkL (l.take k)).toArray⟩ : ByteArray).size = k := by rw [size_mk]; unfold blkL; rw [List.length_map, List.length_take]; omega
      have hk1 : k ≤ 1000 := by omega
      clear hx hnext hkn hkl
      cases x
      all_goals
        go_wp2_with fail
        go_roundw
        case rel =>
          refine ⟨k + 1, by omega, ?_, by go_num, hb⟩
          rw [HNX.out]
          congr 1
          try (apply ByteArray.ext; simp [ByteArray.data_append])
        case measure => simp [intOf]; omega
    · obtain rfl : k = n := by omega
      have e : l.take k = l := List.take_of_length_le (by rw [HN.out]; exact Nat.le_refl _)
      rw [e]
      clear hkn e
      go_wp2_with fail
      go_ret
      exact ⟨rfl, hb⟩

end Go.Proofs.YtpidakfpoihdkaaDoor
