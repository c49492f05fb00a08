/-
  Package target and the document's answer: Get.
-/
import Derived.Test.YteldghiejmpknaaDoorTaK
namespace Go.Proofs.YteldghiejmpknaaDoor
open Go.RowKit

def isN (s : List UInt8) (q : Pm) : Bool := q.1 == s
def getF (Q : List Pm) (s : List UInt8) : List UInt8 × Bool := match Q.find? (isN s) with
  | some q => (q.2, true)
  | none => ([], false)
theorem find_at {α : Type} {p : α → Bool} {l : List α} {k : Nat} {x : α} (hb : ∀ (j : Nat) y, j < k → l[j]? = some y → p y = false) (hx : l[k]? = some x) (hp : p x = true) : l.find? p = some x := by
  induction l generalizing k with
  | nil => simp at hx
  | cons a l ih =>
    cases k with
    | zero =>
      obtain rfl : a = x := by simpa using hx
      simp [hp]
    | succ k =>
      have h0 := hb 0 a (by omega) rfl
      rw [List.find?_cons, h0]
      exact ih (k := k) (fun j y hj hy => hb (j + 1) y (by omega) (by simpa using hy)) (by simpa using hx)
theorem get_hit {Q : List Pm} {s : List UInt8} {k : Nat} {q : Pm} (hb : ∀ (j : Nat) g, j < k → Q[j]? = some g → isN s g = false) (hx : Q[k]? = some q) (hp : isN s q = true) : getF Q s = (q.2, true) := by
  unfold getF
  rw [find_at hb hx hp]
theorem get_miss {Q : List Pm} {s : List UInt8} (hb : ∀ (j : Nat) g, Q[j]? = some g → isN s g = false) : getF Q s = ([], false) := by
  unfold getF
  rw [List.find?_eq_none.2 (fun q hq => by
    obtain ⟨j, hj⟩ := List.mem_iff_getElem?.1 hq
    rw [hb j q hj]
    exact Bool.false_ne_true)]
def Gotten (Q : List Pm) (s : List UInt8) (w : World) (e : Ending) (w' : World) : Prop := e = .returned (.tuple #[.string ⟨(getF Q s).1.toArray⟩, .bool (getF Q s).2]) ∧ Below w.heap.size w w'

set_option maxRecDepth 20000 in
set_option maxHeartbeats 8000000 in
theorem Get_any {w : World} {A B : Option Addr} {n c m d : Nat} {Q : List Pm} (hQ : Ps w B m d Q) (hm : m ≤ 1048577) (s : List UInt8) :
    Calls Tryd.prog 15 #[.agg (tgA A n c B m d), .string ⟨s.toArray⟩] w (Gotten Q s w) := by
  have HQL := Lib.hid hQ.len
  have HQ := Lib.hid hQ
  clear hQ
  go_enter Tryd.func15, Tryd.ntmps15
  go_upto_region 1 with (refine wpList_box rfl _ _ rfl (tgA A n c B m d) rfl ?_; intro w1 hg1 hb1 hz1)
  clear hz1
  have hc1 := (cell_tg hg1).2
  clear hg1
  go_wp2_with fail
  clear hc1
  go_loopw [11] (fun i wr => ∃ k : Nat, k ≤ m ∧ i = .int .i64 k ∧ Below w.heap.size w wr ∧ Hid (∀ (j : Nat) g, j < k → Q[j]? = some g → isN s g = false)) (fun i _ => m - (intOf i).toNat)
  case atStart => exact ⟨0, by omega, rfl, hb1, (show ∀ (j : Nat) g, j < 0 → _ from fun j g h => absurd h (by omega))⟩
  case round =>
    obtain ⟨k, hk, rfl, hb, hH⟩ := hrel
    by_cases hkm : k < m
    · have hx : Q[k]? = some (Q[k]'(by rw [HQL.out]; exact hkm)) := List.getElem?_eq_getElem _
      generalize Q[k]'(by rw [HQL.out]; exact hkm) = q at hx
      have hQr := HQ.out.below hb
      have hidx := fun W => hQr.idx hkm W
      have HLD := Lib.hid (hQr.load hx)
      have hk' : (k : Int) < m := by omega
      obtain ⟨x, y⟩ := q
      dsimp only at HLD
      by_cases he : x = s
      · have he' : (x == s) = true := by simpa using he
        have HG := Lib.hid (get_hit hH.out hx he')
        clear he hx hkm hQr
        go_wp2_with (first
          | (refine wpList_load_run rfl _ _ rfl _ rfl _ HLD.out ?_)
          | (refine wpList_alloc_zero rfl _ rfl (prA [] []) zero_pr ?_; intro w4 hg4 hb4 hz4; clear hz4)
          | (refine wpList_store_all rfl _ _ _ rfl wr.heap.size rfl _ _ _ rfl hg4 (size_pr _ _) rfl (pr_one _ _) ?_; intro w5 hg5 hgr5 hz5; clear hz5; have hb5 : Below wr.heap.size wr w5 := hb4.grown hgr5 hb4.size (fun g hg => (by obtain rfl := Option.some.inj hg; exact Nat.le_refl _)); have hd0 := (cell_pr hg5).1; have hd1 := (cell_pr hg5).2))
        go_ret2
        unfold Gotten
        rw [HG.out]
        exact ⟨rfl, hb.trans (hb5.mono hb.size)⟩
      · have he' : (x == s) = false := by simpa using he
        have HN : Hid (∀ (j : Nat) g, j < k + 1 → Q[j]? = some g → isN s g = false) := fun j g hj hg => by
          by_cases hjk : j < k
          · exact hH.out j g hjk hg
          · obtain rfl : j = k := by omega
            rw [hx] at hg
            obtain rfl := Option.some.inj hg
            exact he'
        clear he hx hkm hQr hH
        go_wp2_with (first
          | (refine wpList_load_run rfl _ _ rfl _ rfl _ HLD.out ?_)
          | (refine wpList_alloc_zero rfl _ rfl (prA [] []) zero_pr ?_; intro w4 hg4 hb4 hz4; clear hz4)
          | (refine wpList_store_all rfl _ _ _ rfl wr.heap.size rfl _ _ _ rfl hg4 (size_pr _ _) rfl (pr_one _ _) ?_; intro w5 hg5 hgr5 hz5; clear hz5; have hb5 : Below wr.heap.size wr w5 := hb4.grown hgr5 hb4.size (fun g hg => (by obtain rfl := Option.some.inj hg; exact Nat.le_refl _)); have hd0 := (cell_pr hg5).1; have hd1 := (cell_pr hg5).2))
        go_roundw
        case rel => exact ⟨k + 1, by omega, by go_num, hb.trans (hb5.mono hb.size), HN⟩
        case measure => simp [intOf]; omega
    · obtain rfl : k = m := by omega
      have HG := Lib.hid (get_miss (s := s) fun j g hg => hH.out j g (by rw [← HQL.out]; exact (List.getElem?_eq_some_iff.1 hg).1) hg)
      clear hkm hH
      go_wp2_with fail
      go_ret2
      unfold Gotten
      rw [HG.out]
      exact ⟨rfl, hb⟩

set_option maxRecDepth 20000 in
set_option maxHeartbeats 8000000 in
theorem RGet_any {w : World} {A B : Option Addr} {n c m d : Nat} {Q : List Pm} (hQ : Ps w B m d Q) (hm : m ≤ 1048577) (s : List UInt8) :
    Calls Tryd.prog 16 #[.agg (tgA A n c B m d), .string ⟨s.toArray⟩] w (Gotten Q s w) := by
  have HQL := Lib.hid hQ.len
  have HQ := Lib.hid hQ
  clear hQ
  go_enter Tryd.func16, Tryd.ntmps16
  go_upto_region 1 with (refine wpList_box rfl _ _ rfl (tgA A n c B m d) rfl ?_; intro w1 hg1 hb1 hz1)
  clear hz1
  have hc1 := (cell_tg hg1).2
  have hQ1 := HQ.out.below hb1
  clear hg1
  go_wp2_with fail
  go_loopw [6] (fun i wr => ∃ k : Nat, k ≤ m ∧ i = .int .i64 k ∧ w1 = wr ∧ Hid (∀ (j : Nat) g, j < k → Q[j]? = some g → isN s g = false)) (fun i _ => m - (intOf i).toNat)
  case atStart => exact ⟨0, by omega, rfl, rfl, (show ∀ (j : Nat) g, j < 0 → _ from fun j g h => absurd h (by omega))⟩
  case round =>
    obtain ⟨k, hk, rfl, rfl, hH⟩ := hrel
    by_cases hkm : k < m
    · have hx : Q[k]? = some (Q[k]'(by rw [HQL.out]; exact hkm)) := List.getElem?_eq_getElem _
      generalize Q[k]'(by rw [HQL.out]; exact hkm) = q at hx
      have hidx := fun W => hQ1.idx hkm W
      have hd0 := hQ1.name hx
      have hd1 := hQ1.value hx
      have hk' : (k : Int) < m := by omega
      obtain ⟨x, y⟩ := q
      unfold strV at hd0 hd1
      have hd1' : w1.cell? ⟨(at_ B (k * 2)).block, (at_ B (k * 2)).off + 1, none⟩ = some (.string ⟨y.toArray⟩) := by rw [show (⟨(at_ B (k * 2)).block, (at_ B (k * 2)).off + 1, none⟩ : Addr) = (at_ B (k * 2)).add 1 from rfl, at_add2]; exact hd1
      by_cases he : x = s
      · have he' : (x == s) = true := by simpa using he
        have HG := Lib.hid (get_hit hH.out hx he')
        clear he hx hkm
        go_wp2_with fail
        go_ret2
        unfold Gotten
        rw [HG.out]
        exact ⟨rfl, hb1⟩
      · have he' : (x == s) = false := by simpa using he
        have HN : Hid (∀ (j : Nat) g, j < k + 1 → Q[j]? = some g → isN s g = false) := fun j g hj hg => by
          by_cases hjk : j < k
          · exact hH.out j g hjk hg
          · obtain rfl : j = k := by omega
            rw [hx] at hg
            obtain rfl := Option.some.inj hg
            exact he'
        clear he hx hkm hH
        go_wp2_with fail
        go_roundw
        case rel => exact ⟨k + 1, by omega, by go_num, by trivial, HN⟩
        case measure => simp [intOf]; omega
    · obtain rfl : k = m := by omega
      have HG := Lib.hid (get_miss (s := s) fun j g hg => hH.out j g (by rw [← HQL.out]; exact (List.getElem?_eq_some_iff.1 hg).1) hg)
      clear hkm hH
      go_wp2_with fail
      go_ret2
      unfold Gotten
      rw [HG.out]
      exact ⟨rfl, hb1⟩

end Go.Proofs.YteldghiejmpknaaDoor
