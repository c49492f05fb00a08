/-
  Package field and the document's answer: Get.
-/
import Derived.Test.YtpidakfpoihdkaaDoorFiN
namespace Go.Proofs.YtpidakfpoihdkaaDoor
open Go.RowKit

def Got (fs : List Fd) (s : List UInt8) (e : Ending) : Prop := e = .returned (.tuple #[.string ⟨(getF fs s).1.toArray⟩, .int .i64 (getF fs s).2])
theorem get_none {fs : List Fd} {s : List UInt8} (h : cntF fs s = 0) : getF fs s = ([], 5) := if_pos h
theorem get_one {fs : List Fd} {s : List UInt8} (h : cntF fs s = 1) {k : Nat} {f : Fd} (hb : ∀ (j : Nat) g, j < k → fs[j]? = some g → isF s g = false) (hx : fs[k]? = some f) (hf : isF s f = true) : getF fs s = (f.2, 0) := by
  unfold getF
  rw [if_neg (by omega), if_pos h, find_at hb hx hf]
  rfl
theorem get_many {fs : List Fd} {s : List UInt8} (h0 : cntF fs s ≠ 0) (h1 : cntF fs s ≠ 1) : getF fs s = ([], 6) := by
  unfold getF
  rw [if_neg h0, if_neg h1]
theorem cnt_none {fs : List Fd} {s : List UInt8} (hb : ∀ (j : Nat) g, fs[j]? = some g → isF s g = false) : cntF fs s = 0 := by
  unfold cntF
  rw [List.countP_eq_zero]
  intro g hg
  obtain ⟨j, hj⟩ := List.mem_iff_getElem?.1 hg
  rw [hb j g hj]
  exact Bool.false_ne_true

set_option maxRecDepth 20000 in
set_option maxHeartbeats 4000000 in
theorem Get_any {w : World} {A : Option Addr} {n c : Nat} {fs : List Fd} (h : Fds w A n c fs) (hn : n ≤ 1000) (s : List UInt8) :
    Calls Tryd.prog 14 #[.slice A n c, .string ⟨s.toArray⟩] w fun e w' => Got fs s e ∧ Below w.heap.size w w' := by
  have HL := Lib.hid h.len
  have HC := Lib.hid (Count_any h hn s)
  obtain ⟨C, hC⟩ : ∃ C, cntF fs s = C := ⟨_, rfl⟩
  rw [hC] at HC
  have hcs : C = 0 ∨ C = 1 ∨ (C ≠ 0 ∧ C ≠ 1) := by omega
  rcases hcs with rfl | rfl | ⟨h0, h1⟩
  · have HG := Lib.hid (get_none hC)
    clear hC
    go_enter Tryd.func14, Tryd.ntmps14
    go_wp2_with fail
    refine HC.out.mono ?_
    rintro e w1 ⟨rfl, hb1⟩
    go_wp2_with fail
    go_ret2
    unfold Got
    rw [HG.out]
    exact ⟨rfl, hb1⟩
  · have HCC := Lib.hid hC
    clear hC
    go_enter Tryd.func14, Tryd.ntmps14
    go_wp2_with fail
    refine HC.out.mono ?_
    rintro e w1 ⟨rfl, hb1⟩
    go_wp2_with fail
    go_loopw [17] (fun i wr => ∃ k : Nat, k ≤ n ∧ i = .int .i64 k ∧ Below w.heap.size w wr ∧ Hid (∀ (j : Nat) g, j < k → fs[j]? = some g → isF s g = false)) (fun i _ => n - (intOf i).toNat)
    case atStart => exact ⟨0, by omega, rfl, hb1, (show ∀ (j : Nat) g, j < 0 → _ from fun j g h => absurd h (by omega))⟩
    case round =>
      obtain ⟨k, hk, rfl, hb, hH⟩ := hrel
      by_cases hkn : k < n
      · have hx : fs[k]? = some (fs[k]'(by rw [HL.out]; exact hkn)) := List.getElem?_eq_getElem _
        generalize fs[k]'(by rw [HL.out]; exact hkn) = f at hx
        have hr := h.below hb
        have hidx := fun W => h.idx hkn W
        have HLD := Lib.hid (hr.load hx)
        have hk' : (k : Int) < n := by omega
        obtain ⟨f1, f2⟩ := f
        dsimp only at HLD
        by_cases he : f1 = s
        · have he' : (f1 == s) = true := by simpa using he
          have HG := Lib.hid (get_one HCC.out hH.out hx he')
          clear he hx hkn hr
          go_wp2_with (first
            | (refine wpList_load_run rfl _ _ rfl _ rfl _ HLD.out ?_)
            | (refine wpList_alloc_zero rfl _ rfl (fdA [] []) zero_fd ?_; intro w4 hg4 hb4 hz4; clear hz4)
            | (refine wpList_store_all rfl _ _ _ rfl wr.heap.size rfl _ _ _ rfl hg4 (size_fd _ _) rfl (fd_one _ _) ?_; intro w5 hg5 hgr5 hz5; clear hz5; have hb5 : Below wr.heap.size wr w5 := hb4.grown hgr5 hb4.size (fun g hg => (by obtain rfl := Option.some.inj hg; exact Nat.le_refl _)); have hc0 : w5.cell? ⟨wr.heap.size, 0, none⟩ = some (.string ⟨f1.toArray⟩) := cell_fd hg5 rfl; have hc1 : w5.cell? ⟨wr.heap.size, 1, none⟩ = some (.string ⟨f2.toArray⟩) := cell_fd hg5 rfl))
          go_ret2
          unfold Got
          rw [HG.out]
          exact ⟨rfl, hb.trans (hb5.mono hb.size)⟩
        · have he' : (f1 == s) = false := by simpa using he
          have HN : Hid (∀ (j : Nat) g, j < k + 1 → fs[j]? = some g → isF s g = false) := fun j g hj hg => by
            by_cases hjk : j < k
            · exact hH.out j g hjk hg
            · obtain rfl : j = k := by omega
              rw [hx] at hg
              obtain rfl := Option.some.inj hg
              exact he'
          clear he hx hkn hr hH
          go_wp2_with (first
            | (refine wpList_load_run rfl _ _ rfl _ rfl _ HLD.out ?_)
            | (refine wpList_alloc_zero rfl _ rfl (fdA [] []) zero_fd ?_; intro w4 hg4 hb4 hz4; clear hz4)
            | (refine wpList_store_all rfl _ _ _ rfl wr.heap.size rfl _ _ _ rfl hg4 (size_fd _ _) rfl (fd_one _ _) ?_; intro w5 hg5 hgr5 hz5; clear hz5; have hb5 : Below wr.heap.size wr w5 := hb4.grown hgr5 hb4.size (fun g hg => (by obtain rfl := Option.some.inj hg; exact Nat.le_refl _)); have hc0 : w5.cell? ⟨wr.heap.size, 0, none⟩ = some (.string ⟨f1.toArray⟩) := cell_fd hg5 rfl))
          go_roundw
          case rel => exact ⟨k + 1, by omega, by go_num, hb.trans (hb5.mono hb.size), HN⟩
          case measure => simp [intOf]; omega
      · obtain rfl : k = n := by omega
        have : cntF fs s = 0 := cnt_none fun j g hg => hH.out j g (by rw [← HL.out]; exact (List.getElem?_eq_some_iff.1 hg).1) hg
        have := HCC.out
        omega
  · have HG := Lib.hid (get_many (fs := fs) (s := s) (by omega) (by omega))
    have h0' : ((C : Int) == 0) = false := by simp; omega
    have h1' : ((C : Int) == 1) = false := by simp; omega
    clear hC h0 h1
    go_enter Tryd.func14, Tryd.ntmps14
    go_wp2_with fail
    refine HC.out.mono ?_
    rintro e w1 ⟨rfl, hb1⟩
    go_wp2_with fail
    go_ret2
    unfold Got
    rw [HG.out]
    exact ⟨rfl, hb1⟩

set_option maxRecDepth 20000 in
set_option maxHeartbeats 4000000 in
theorem RGet_any {w : World} {A : Option Addr} {n c : Nat} {fs : List Fd} (h : Fds w A n c fs) (hn : n ≤ 1000) (s : List UInt8) :
    Calls Tryd.prog 15 #[.slice A n c, .string ⟨s.toArray⟩] w fun e w' => Got fs s e ∧ Below w.heap.size w w' := by
  have HL := Lib.hid h.len
  have HC := Lib.hid (RCount_any h hn s)
  obtain ⟨C, hC⟩ : ∃ C, cntF fs s = C := ⟨_, rfl⟩
  rw [hC] at HC
  have hcs : C = 0 ∨ C = 1 ∨ (C ≠ 0 ∧ C ≠ 1) := by omega
  rcases hcs with rfl | rfl | ⟨h0, h1⟩
  · have HG := Lib.hid (get_none hC)
    clear hC
    go_enter Tryd.func15, Tryd.ntmps15
    go_wp2_with fail
    refine HC.out.mono ?_
    rintro e w1 ⟨rfl, rfl⟩
    have hb1 := Below.refl w.heap.size w
    go_wp2_with fail
    go_ret2
    unfold Got
    rw [HG.out]
    exact ⟨rfl, hb1⟩
  · have HCC := Lib.hid hC
    clear hC
    go_enter Tryd.func15, Tryd.ntmps15
    go_wp2_with fail
    refine HC.out.mono ?_
    rintro e w1 ⟨rfl, rfl⟩
    have hb1 := Below.refl w.heap.size w
    go_wp2_with fail
    go_loopw [6] (fun i wr => ∃ k : Nat, k ≤ n ∧ i = .int .i64 k ∧ Below w.heap.size w wr ∧ Hid (∀ (j : Nat) g, j < k → fs[j]? = some g → isF s g = false)) (fun i _ => n - (intOf i).toNat)
    case atStart => exact ⟨0, by omega, rfl, hb1, (show ∀ (j : Nat) g, j < 0 → _ from fun j g h => absurd h (by omega))⟩
    case round =>
      obtain ⟨k, hk, rfl, hb, hH⟩ := hrel
      by_cases hkn : k < n
      · have hx : fs[k]? = some (fs[k]'(by rw [HL.out]; exact hkn)) := List.getElem?_eq_getElem _
        generalize fs[k]'(by rw [HL.out]; exact hkn) = f at hx
        have hr := h.below hb
        have hidx := fun W => h.idx hkn W
        have hc0 := hr.name hx
        have hc1 := hr.value hx
        have hk' : (k : Int) < n := by omega
        obtain ⟨f1, f2⟩ := f
        unfold strV at hc0 hc1
        have hc1' : wr.cell? ⟨(at_ A (k * 2)).block, (at_ A (k * 2)).off + 1, none⟩ = some (.string ⟨f2.toArray⟩) := by rw [show (⟨(at_ A (k * 2)).block, (at_ A (k * 2)).off + 1, none⟩ : Addr) = (at_ A (k * 2)).add 1 from rfl, at_add2]; exact hc1
        by_cases he : f1 = s
        · have he' : (f1 == s) = true := by simpa using he
          have HG := Lib.hid (get_one HCC.out hH.out hx he')
          clear he hx hkn hr
          go_wp2_with fail
          go_ret2
          unfold Got
          rw [HG.out]
          exact ⟨rfl, hb⟩
        · have he' : (f1 == s) = false := by simpa using he
          have HN : Hid (∀ (j : Nat) g, j < k + 1 → fs[j]? = some g → isF s g = false) := fun j g hj hg => by
            by_cases hjk : j < k
            · exact hH.out j g hjk hg
            · obtain rfl : j = k := by omega
              rw [hx] at hg
              obtain rfl := Option.some.inj hg
              exact he'
          clear he hx hkn hr hH
          go_wp2_with fail
          go_roundw
          case rel => exact ⟨k + 1, by omega, by go_num, hb, HN⟩
          case measure => simp [intOf]; omega
      · obtain rfl : k = n := by omega
        have : cntF fs s = 0 := cnt_none fun j g hg => hH.out j g (by rw [← HL.out]; exact (List.getElem?_eq_some_iff.1 hg).1) hg
        have := HCC.out
        omega
  · have HG := Lib.hid (get_many (fs := fs) (s := s) (by omega) (by omega))
    have h0' : ((C : Int) == 0) = false := by simp; omega
    have h1' : ((C : Int) == 1) = false := by simp; omega
    clear hC h0 h1
    go_enter Tryd.func15, Tryd.ntmps15
    go_wp2_with fail
    refine HC.out.mono ?_
    rintro e w1 ⟨rfl, rfl⟩
    have hb1 := Below.refl w.heap.size w
    go_wp2_with fail
    go_ret2
    unfold Got
    rw [HG.out]
    exact ⟨rfl, hb1⟩

end Go.Proofs.YtpidakfpoihdkaaDoor
