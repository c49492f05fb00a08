/-
  Package reply: the words of statuses, what stands ahead of a body.
-/
import Derived.Test.YtogkmlodcdgegaaDoorPri
import Derived.Test.YtogkmlodcdgegaaDoorDec
import Derived.Test.YtogkmlodcdgegaaDoorStrs
namespace Go.Proofs.YtogkmlodcdgegaaDoor
open Go.RowKit

/-- All statuses, with their words. -/
def stL : List (Int × List UInt8) := [(200, [79, 75]), (201, [67, 114, 101, 97, 116, 101, 100]), (400, [66, 97, 100, 32, 82, 101, 113, 117, 101, 115, 116]), (401, [85, 110, 97, 117, 116, 104, 111, 114, 105, 122, 101, 100]), (403, [70, 111, 114, 98, 105, 100, 100, 101, 110]), (404, [78, 111, 116, 32, 70, 111, 117, 110, 100]), (405, [77, 101, 116, 104, 111, 100, 32, 78, 111, 116, 32, 65, 108, 108, 111, 119, 101, 100]), (409, [67, 111, 110, 102, 108, 105, 99, 116]), (413, [67, 111, 110, 116, 101, 110, 116, 32, 84, 111, 111, 32, 76, 97, 114, 103, 101]), (431, [82, 101, 113, 117, 101, 115, 116, 32, 72, 101, 97, 100, 101, 114, 32, 70, 105, 101, 108, 100, 115, 32, 84, 111, 111, 32, 76, 97, 114, 103, 101]), (507, [73, 110, 115, 117, 102, 102, 105, 99, 105, 101, 110, 116, 32, 83, 116, 111, 114, 97, 103, 101])]
/-- The words of a status. -/
def reasonL (v : Int) : List UInt8 := match stL.find? (fun x => x.1 == v) with
  | some x => x.2
  | none => []
/-- Is it one of them? -/
def isSt (v : Int) : Prop := v = 200 ∨ v = 201 ∨ v = 400 ∨ v = 401 ∨ v = 403 ∨ v = 404 ∨ v = 405 ∨ v = 409 ∨ v = 413 ∨ v = 431 ∨ v = 507
instance (v : Int) : Decidable (isSt v) := by unfold isSt; infer_instance
theorem reason_none {v : Int} (h : ¬ isSt v) : reasonL v = [] := by
  unfold isSt at h
  simp only [not_or] at h
  obtain ⟨h1, h2, h3, h4, h5, h6, h7, h8, h9, h10, h11⟩ := h
  have e : stL.find? (fun x => x.1 == v) = none := by
    rw [List.find?_eq_none]
    intro x hx
    simp only [stL, List.mem_cons, List.not_mem_nil, or_false] at hx
    rcases hx with rfl | rfl | rfl | rfl | rfl | rfl | rfl | rfl | rfl | rfl | rfl <;> simp <;> omega
  unfold reasonL
  rw [e]
theorem reason_some {v : Int} (h : isSt v) : 0 < (reasonL v).length ∧ (reasonL v).length ≤ 31 := by
  rcases h with rfl | rfl | rfl | rfl | rfl | rfl | rfl | rfl | rfl | rfl | rfl <;> exact ⟨by decide, by decide⟩

set_option maxRecDepth 20000 in
set_option maxHeartbeats 4000000 in
theorem Reason_any (v : Int) (w : World) : Calls Tryd.prog 11 #[.int .i64 v] w fun e w' => e = .returned (.string ⟨(reasonL v).toArray⟩) ∧ w = w' := by
  by_cases h : isSt v
  · rcases h with rfl | rfl | rfl | rfl | rfl | rfl | rfl | rfl | rfl | rfl | rfl
    all_goals
      go_enter Tryd.func11, Tryd.ntmps11
      go_wp2_with fail
      go_ret
      exact ⟨rfl, rfl⟩
  · rw [reason_none h]
    unfold isSt at h
    simp only [not_or] at h
    obtain ⟨h1, h2, h3, h4, h5, h6, h7, h8, h9, h10, h11⟩ := h
    have g1 : (v == 200) = false := by simpa using h1
    have g2 : (v == 201) = false := by simpa using h2
    have g3 : (v == 400) = false := by simpa using h3
    have g4 : (v == 401) = false := by simpa using h4
    have g5 : (v == 403) = false := by simpa using h5
    have g6 : (v == 404) = false := by simpa using h6
    have g7 : (v == 405) = false := by simpa using h7
    have g8 : (v == 409) = false := by simpa using h8
    have g9 : (v == 413) = false := by simpa using h9
    have g10 : (v == 431) = false := by simpa using h10
    have g11 : (v == 507) = false := by simpa using h11
    clear h1 h2 h3 h4 h5 h6 h7 h8 h9 h10 h11
    go_enter Tryd.func11, Tryd.ntmps11
    go_wp2_with fail
    go_ret
    exact ⟨rfl, rfl⟩

/-- What stands ahead of a body's length. -/
def headL (v : Int) : List UInt8 := [72, 84, 84, 80, 47, 49, 46, 49, 32] ++ Lib.itoa v ++ [32] ++ reasonL v ++ [13, 10] ++ [67, 111, 110, 116, 101, 110, 116, 45, 76, 101, 110, 103, 116, 104, 58, 32]
theorem catL (l r : List UInt8) : (⟨l.toArray⟩ : ByteArray) ++ ⟨r.toArray⟩ = ⟨(l ++ r).toArray⟩ := by
  apply ByteArray.ext
  apply Array.ext'
  simp
theorem catA (l : Array UInt8) (r : List UInt8) : (⟨l⟩ : ByteArray) ++ ⟨r.toArray⟩ = ⟨(l.toList ++ r).toArray⟩ := by
  apply ByteArray.ext
  apply Array.ext'
  simp
theorem itoa_3 : ∀ v : Int, isSt v → (Lib.itoa v).length = 3 := by
  intro v h
  rcases h with rfl | rfl | rfl | rfl | rfl | rfl | rfl | rfl | rfl | rfl | rfl <;> decide +kernel

set_option maxRecDepth 20000 in
set_option maxHeartbeats 4000000 in
theorem head_any {v : Int} (hv : isSt v) (w : World) (ht : Tab w) : Calls Tryd.prog 19 #[.int .i64 v] w fun e w' => e = .returned (.string ⟨(headL v).toArray⟩) ∧ Below w.heap.size w w' := by
  have hb : -9223372036854775808 ≤ v ∧ v ≤ 9223372036854775807 := by unfold isSt at hv; omega
  have HP := Lib.hid (Print_any v hb.1 hb.2 w ht)
  have hl := itoa_3 v hv
  have hr := (reason_some hv).2
  have hfin : (⟨(headL v).toArray⟩ : ByteArray) = (⟨#[72, 84, 84, 80, 47, 49, 46, 49, 32]⟩ ++ printB v ++ ⟨#[32]⟩ ++ ⟨(reasonL v).toArray⟩ ++ ⟨#[13, 10]⟩ ++ ⟨#[67, 111, 110, 116, 101, 110, 116, 45, 76, 101, 110, 103, 116, 104, 58, 32]⟩) := by
    unfold printB headL
    apply ByteArray.ext
    apply Array.ext'
    simp
  have HF := Lib.hid hfin
  have hps : (printB v).size = 3 := hl
  have hrs : (⟨(reasonL v).toArray⟩ : ByteArray).size ≤ 31 := hr
  obtain ⟨B, hB⟩ : ∃ B, printB v = B := ⟨_, rfl⟩
  obtain ⟨C, hC⟩ : ∃ C, (⟨(reasonL v).toArray⟩ : ByteArray) = C := ⟨_, rfl⟩
  have HR := Lib.hid (Reason_any v)
  rw [hB] at HP hps HF
  rw [hC] at HR hrs HF
  clear hb hl hr hfin hB hC hv
  go_enter Tryd.func19, Tryd.ntmps19
  go_wp2_with fail
  refine HP.out.mono ?_
  rintro e w1 ⟨rfl, hb1⟩
  go_wp2_with fail
  refine (HR.out _).mono ?_
  rintro e w2 ⟨rfl, rfl⟩
  go_wp2_with fail
  go_ret
  rw [HF.out]
  exact ⟨rfl, hb1⟩

end Go.Proofs.YtogkmlodcdgegaaDoor
