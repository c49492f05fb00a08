/-
  Package names: NamesOrder.
-/
import Derived.Test.YtalbnmekejmnmaaDoorNaC
import Derived.Test.YtalbnmekejmnmaaDoorNaG
namespace Go.Proofs.YtalbnmekejmnmaaDoor
open Go.RowKit

theorem numR_cases (s : ByteArray) : ((numR s).2 ≠ 0) ∨ (numR s = ((valS s s.size : Int), 0) ∧ digS s ∧ 0 < s.size ∧ ¬ zeroS s ∧ valS s s.size < 9223372036854775808) := by
  by_cases h : digS s ∧ 0 < s.size ∧ ¬ zeroS s
  · by_cases h2 : valS s s.size < 9223372036854775808
    · exact .inr ⟨numR_good h h2, h.1, h.2.1, h.2.2, h2⟩
    · refine .inl ?_
      rw [numR_long h h2]
      decide
  · refine .inl ?_
    rw [numR_bad h]
    decide

set_option maxRecDepth 20000 in
set_option maxHeartbeats 1000000 in
theorem namesOrder_walk {w : World} (ht : Tab w) (s : ByteArray) (_ : s.size ≤ maxLen) (t : ByteArray) (_ : t.size ≤ maxLen) : Calls Tryd.prog 5 #[.string s, .string t] w fun e w' => e = .returned (.bool true) ∧ Below w.heap.size w w' := by
  have HB := Lib.hid (begun_any w ht)
  by_cases hs : (64 : Int) < s.size
  · go_enter Tryd.func5, Tryd.ntmps5
    go_wp2_with fail
    refine HB.out.mono ?_
    rintro e w1 ⟨rfl, hb1⟩
    go_wp2_with fail
    go_ret
    exact ⟨rfl, hb1⟩
  have hs' : (s.size : Int) ≤ 64 := by omega
  clear hs
  by_cases hs : (64 : Int) < t.size
  · go_enter Tryd.func5, Tryd.ntmps5
    go_wp2_with fail
    refine HB.out.mono ?_
    rintro e w1 ⟨rfl, hb1⟩
    go_wp2_with fail
    go_ret
    exact ⟨rfl, hb1⟩
  have ht' : (t.size : Int) ≤ 64 := by omega
  clear hs
  have NS := Lib.hid (Number_any s (by omega))
  have NT := Lib.hid (Number_any t (by omega))
  rcases numR_cases s with hs | ⟨es, gs1, gs2, gs3, gs4⟩
  · have hs1 : ((numR s).2 == 0) = false := by simpa using hs
    have hs2 : ((numR s).2 != 0) = true := by simpa using hs
    generalize numR s = r at hs hs1 hs2 NS
    obtain ⟨r1, r2⟩ := r
    generalize numR t = r' at NT
    obtain ⟨q1, q2⟩ := r'
    dsimp only at hs hs1 hs2 NS NT
    clear hs
    go_enter Tryd.func5, Tryd.ntmps5
    go_wp2_with fail
    refine HB.out.mono ?_
    rintro e w1 ⟨rfl, hb1⟩
    go_wp2_with fail
    refine (NS.out _).mono ?_
    rintro e w2 ⟨rfl, rfl⟩
    go_wp2_with fail
    refine (NT.out _).mono ?_
    rintro e w2 ⟨rfl, rfl⟩
    go_wp2_with fail
    go_ret
    exact ⟨rfl, hb1⟩
  rw [es] at NS
  dsimp only at NS
  rcases numR_cases t with hs | ⟨et, gt1, gt2, gt3, gt4⟩
  · have hs1 : ((numR t).2 == 0) = false := by simpa using hs
    have hs2 : ((numR t).2 != 0) = true := by simpa using hs
    generalize numR t = r at hs hs1 hs2 NT
    obtain ⟨r1, r2⟩ := r
    dsimp only at hs hs1 hs2 NT
    clear hs
    go_enter Tryd.func5, Tryd.ntmps5
    go_wp2_with fail
    refine HB.out.mono ?_
    rintro e w1 ⟨rfl, hb1⟩
    go_wp2_with fail
    refine (NS.out _).mono ?_
    rintro e w2 ⟨rfl, rfl⟩
    go_wp2_with fail
    refine (NT.out _).mono ?_
    rintro e w2 ⟨rfl, rfl⟩
    go_wp2_with fail
    go_ret
    exact ⟨rfl, hb1⟩
  rw [et] at NT
  dsimp only at NT
  have OS := Lib.hid (order_same s t gs1 gt1)
  have OL := Lib.hid (order_less s t gs1 gt1 gs2 gt3)
  have OG := Lib.hid (order_less t s gt1 gs1 gt2 gs3)
  clear es et gs1 gs2 gs3 gt1 gt2 gt3
  generalize valS s s.size = a at NS gs4 OS OL OG
  generalize valS t t.size = b at NT gt4 OS OL OG
  go_enter Tryd.func5, Tryd.ntmps5
  go_wp2_with fail
  refine HB.out.mono ?_
  rintro e w1 ⟨rfl, hb1⟩
  go_wp2_with fail
  refine (NS.out _).mono ?_
  rintro e w2 ⟨rfl, rfl⟩
  go_wp2_with fail
  refine (NT.out _).mono ?_
  rintro e w2 ⟨rfl, rfl⟩
  go_wp2_with fail
  all_goals go_ret
  all_goals refine ⟨congrArg (fun b => Ending.returned (Value.bool b)) ?_, hb1⟩
  · have e : s.size = t.size := by omega
    rw [← OS.out e]
    simp [e]
  · have e : t.size < s.size := by omega
    have := OG.out e
    have h1 : ¬ a < b := by omega
    have h2 : ¬ s.size < t.size := by omega
    simp [h1, h2]
  · have e : s.size < t.size := by omega
    exact decide_eq_true (OL.out e)

end Go.Proofs.YtalbnmekejmnmaaDoor
