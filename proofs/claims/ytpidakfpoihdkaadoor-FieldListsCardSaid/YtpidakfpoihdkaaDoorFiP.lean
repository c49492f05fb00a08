/-
  The law FieldLists.
-/
import Derived.Test.YtpidakfpoihdkaaDoorFiO
import Derived.Test.YtpidakfpoihdkaaDoorShap
namespace Go.Proofs.YtpidakfpoihdkaaDoor
open Go.RowKit

theorem mx_of {w : World} (h : w.ShapedOpen Tryd.checked.prog) : Mx w :=
  Go.Proofs.cell_of_shapedOpen_int (zero := #[.int .i64 0]) (t := 3) h (of_decide_eq_true (by kernel_rfl)) (by kernel_rfl) rfl (by kernel_rfl) (by kernel_rfl) Tryd.underlying3

set_option maxRecDepth 20000 in
set_option maxHeartbeats 8000000 in
theorem fieldLists_walk {w : World} (hm : Mx w) (A : Option Addr) (n c : Nat) (fs : List Fd) (h : Fds w A n c fs) (s : ByteArray) (_ : s.size ≤ maxLen) :
    Calls Tryd.prog 7 #[.slice A n c, .string s] w fun e w' => e = .returned (.bool true) ∧ Below w.heap.size w w' := by
  obtain ⟨l, rfl⟩ : ∃ l : List UInt8, s = ⟨l.toArray⟩ := ⟨s.data.toList, by cases s; simp⟩
  have HB := Lib.hid (begun_any w hm)
  have hz := size_mk l
  clear hm
  by_cases hn : (60 : Int) < n
  · have hn' : decide ((60 : Int) < n) = true := decide_eq_true hn
    clear hn
    go_enter Tryd.func7, Tryd.ntmps7
    go_wp2_with fail
    refine HB.out.mono ?_
    rintro e w1 ⟨rfl, hb1⟩
    go_wp2_with fail
    go_ret
    exact ⟨rfl, hb1⟩
  have hn' : decide ((60 : Int) < n) = false := decide_eq_false hn
  have hn2 : n ≤ 60 := by omega
  by_cases hk : (200 : Int) < l.length
  · have hk' : decide ((200 : Int) < l.length) = true := decide_eq_true hk
    clear hn hk
    go_enter Tryd.func7, Tryd.ntmps7
    go_wp2_with fail
    refine HB.out.mono ?_
    rintro e w1 ⟨rfl, hb1⟩
    go_wp2_with fail
    go_ret
    exact ⟨rfl, hb1⟩
  have hk' : decide ((200 : Int) < l.length) = false := decide_eq_false hk
  have HG := Lib.hid (fun W (hb : Below w.heap.size w W) => Get_any (h.below hb) (by omega) l)
  have HR := Lib.hid (fun W (hb : Below w.heap.size w W) => RGet_any (h.below hb) (by omega) l)
  have HC := Lib.hid (fun W (hb : Below w.heap.size w W) => Count_any (h.below hb) (by omega) l)
  have HD := Lib.hid (fun W (hb : Below w.heap.size w W) => RCount_any (h.below hb) (by omega) l)
  unfold Got at HG HR
  obtain ⟨a, b, hR⟩ : ∃ a b, getF fs l = (a, b) := ⟨_, _, rfl⟩
  rw [hR] at HG HR
  clear hn hk hR h
  go_enter Tryd.func7, Tryd.ntmps7
  go_wp2_with fail
  refine HB.out.mono ?_
  rintro e w1 ⟨rfl, hb1⟩
  go_wp2_with fail
  refine (HG.out _ hb1).mono ?_
  rintro e w2 ⟨rfl, hbl2⟩
  have hb2 := hb1.trans (hbl2.mono hb1.size)
  go_wp2_with fail
  refine (HR.out _ hb2).mono ?_
  rintro e w3 ⟨rfl, hbl3⟩
  have hb3 := hb2.trans (hbl3.mono hb2.size)
  go_wp2_with fail
  refine (HC.out _ hb3).mono ?_
  rintro e w4 ⟨rfl, hbl4⟩
  have hb4 := hb3.trans (hbl4.mono hb3.size)
  go_wp2_with fail
  refine (HD.out _ hb4).mono ?_
  rintro e w5 ⟨rfl, rfl⟩
  go_wp2_with fail
  go_ret
  exact ⟨rfl, hb4⟩

end Go.Proofs.YtpidakfpoihdkaaDoor
