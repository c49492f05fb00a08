/-
  The law FieldLines.
-/
import Derived.Test.YtpidakfpoihdkaaDoorFiF
import Derived.Test.YtpidakfpoihdkaaDoorFiG
import Derived.Test.YtpidakfpoihdkaaDoorShap
namespace Go.Proofs.YtpidakfpoihdkaaDoor
open Go.RowKit

theorem mx_of {w : World} (h : w.ShapedOpen Tryd.checked.prog) : Mx w :=
  Go.Proofs.cell_of_shapedOpen_int (zero := #[.int .i64 0]) (t := 3) h (of_decide_eq_true (by kernel_rfl)) (by kernel_rfl) rfl (by kernel_rfl) (by kernel_rfl) Tryd.underlying3
theorem fdEq_self (a b : List UInt8) : fdEq a b a b = true := by simp [fdEq]

set_option maxRecDepth 20000 in
set_option maxHeartbeats 8000000 in
theorem fieldLines_walk {w : World} (hm : Mx w) (s : ByteArray) (_ : s.size ≤ maxLen) :
    Calls Tryd.prog 3 #[.string s] w fun e w' => e = .returned (.bool true) ∧ Below w.heap.size w w' := by
  obtain ⟨l, rfl⟩ : ∃ l : List UInt8, s = ⟨l.toArray⟩ := ⟨s.data.toList, by cases s; simp⟩
  have HM := Lib.hid (fun W (hb : Below w.heap.size w W) => hm.below hb)
  have HB := Lib.hid (begun_any w hm)
  have hz := size_mk l
  clear hm
  by_cases hn : (2048 : Int) < l.length
  · have hn' : decide ((2048 : Int) < l.length) = true := decide_eq_true hn
    clear hn
    go_enter Tryd.func3, Tryd.ntmps3
    go_wp2_with fail
    refine HB.out.mono ?_
    rintro e w1 ⟨rfl, hb1⟩
    go_wp2_with fail
    go_ret
    exact ⟨rfl, hb1⟩
  have hn' : decide ((2048 : Int) < l.length) = false := decide_eq_false hn
  have hn2 : l.length ≤ 2048 := by omega
  have HLA := Lib.hid (fun W h => Line_any l (by omega) W h)
  have HRA := Lib.hid (fun W => RLine_any l (by omega) W)
  unfold Lined at HLA HRA
  obtain ⟨a, b, c, hR⟩ : ∃ a b c, lineR l = (a, b, c) := ⟨_, _, _, rfl⟩
  rw [hR] at HLA HRA
  clear hn hR
  go_enter Tryd.func3, Tryd.ntmps3
  go_wp2_with fail
  refine HB.out.mono ?_
  rintro e w1 ⟨rfl, hb1⟩
  go_wp2_with fail
  refine (HLA.out _ (HM.out _ hb1)).mono ?_
  rintro e w2 ⟨rfl, hb2⟩
  have hb2' := hb1.trans (hb2.mono hb1.size)
  go_wp2_with (first
    | (refine wpList_alloc_zero rfl _ rfl (fdA [] []) zero_fd ?_; intro w4 hg4 hb4 hz4)
    | (refine wpList_store_all rfl _ _ _ rfl w2.heap.size rfl _ _ _ rfl hg4 (size_fd _ _) rfl (fd_one _ _) ?_; intro w5 hg5 hgr5 hz5))
  have hb25 : Below w2.heap.size w2 w5 := hb4.grown hgr5 (by omega) (fun g hg => by obtain rfl := Option.some.inj hg; exact Nat.le_refl _)
  have hb5 := hb2'.trans (hb25.mono hb2'.size)
  have hlt5 : w2.heap.size < w5.heap.size := by omega
  clear hg4 hb4 hz4 hgr5 hz5 hb25
  refine (HRA.out _).mono ?_
  rintro e w6 ⟨rfl, hb6⟩
  have hb6' := hb5.trans (hb6.mono hb5.size)
  have hG6 := (hb6.block _ hlt5).trans hg5
  have hlt6 : w2.heap.size < w6.heap.size := Nat.lt_of_lt_of_le hlt5 hb6.size
  clear hg5
  go_wp2_with (first
    | (refine wpList_alloc_zero rfl _ rfl (fdA [] []) zero_fd ?_; intro w7 hg7 hb7 hz7)
    | (refine wpList_store_all rfl _ _ _ rfl w6.heap.size rfl _ _ _ rfl hg7 (size_fd _ _) rfl (fd_one _ _) ?_; intro w8 hg8 hgr8 hz8; have hb68 : Below w6.heap.size w6 w8 := hb7.grown hgr8 (by omega) (fun g hg => (by obtain rfl := Option.some.inj hg; exact Nat.le_refl _)); have hG8 := (hb68.block _ hlt6).trans hG6)
    | (refine wpList_load_all rfl _ _ rfl w2.heap.size rfl _ _ _ _ hG8 Tryd.underlying24 rfl (size_fd _ _) ?_)
    | (refine wpList_load_all rfl _ _ rfl w6.heap.size rfl _ _ _ _ hg8 Tryd.underlying24 rfl (size_fd _ _) ?_)
    | (refine wpList_eql_fd rfl _ _ rfl rfl rfl ?_; rw [fdEq_self]))
  go_ret
  exact ⟨rfl, hb6'.trans (hb68.mono hb6'.size)⟩

end Go.Proofs.YtpidakfpoihdkaaDoor
