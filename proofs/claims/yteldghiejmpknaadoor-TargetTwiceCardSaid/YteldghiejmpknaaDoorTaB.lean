/-
  Package target: plain bytes.
-/
import Derived.Test.YteldghiejmpknaaDoorTaA
import Derived.Test.YteldghiejmpknaaDoorShelf
namespace Go.Proofs.YteldghiejmpknaaDoor
open Go.RowKit

def chkP (x : UInt8) : Bool := (decide (0 ≤ Lib.indexByte markL x)) == markL.contains x
theorem chkP_fin : ∀ c : Fin 256, chkP (UInt8.ofNat c.1) = true := by decide +kernel
theorem idx_mark (x : UInt8) : decide (0 ≤ Lib.indexByte markL x) = markL.contains x := by
  have := chkP_fin ⟨x.toNat, x.toNat_lt⟩
  have e : UInt8.ofNat x.toNat = x := by simp
  dsimp only at this
  rw [e] at this
  simpa [chkP] using this
theorem pl_case (x : UInt8) : ((97 ≤ (x.toNat : Int) ∧ (x.toNat : Int) ≤ 122) ∧ plB x = true) ∨ ((65 ≤ (x.toNat : Int) ∧ (x.toNat : Int) ≤ 90) ∧ plB x = true) ∨ ((48 ≤ (x.toNat : Int) ∧ (x.toNat : Int) ≤ 57) ∧ plB x = true) ∨
    ((x.toNat : Int) < 48 ∧ plB x = markL.contains x) ∨ ((57 < (x.toNat : Int) ∧ (x.toNat : Int) < 65) ∧ plB x = markL.contains x) ∨ ((90 < (x.toNat : Int) ∧ (x.toNat : Int) < 97) ∧ plB x = markL.contains x) ∨ (122 < (x.toNat : Int) ∧ plB x = markL.contains x) := by
  unfold plB
  have h : (97 ≤ x.toNat ∧ x.toNat ≤ 122) ∨ (65 ≤ x.toNat ∧ x.toNat ≤ 90) ∨ (48 ≤ x.toNat ∧ x.toNat ≤ 57) ∨ x.toNat < 48 ∨ (57 < x.toNat ∧ x.toNat < 65) ∨ (90 < x.toNat ∧ x.toNat < 97) ∨ 122 < x.toNat := by omega
  generalize markL.contains x = M
  rcases h with h | h | h | h | h | h | h
  · exact .inl ⟨by omega, by simp; omega⟩
  · exact .inr (.inl ⟨by omega, by simp; omega⟩)
  · exact .inr (.inr (.inl ⟨by omega, by simp; omega⟩))
  · exact .inr (.inr (.inr (.inl ⟨by omega, by cases M <;> simp <;> omega⟩)))
  · exact .inr (.inr (.inr (.inr (.inl ⟨by omega, by cases M <;> simp <;> omega⟩))))
  · exact .inr (.inr (.inr (.inr (.inr (.inl ⟨by omega, by cases M <;> simp <;> omega⟩)))))
  · exact .inr (.inr (.inr (.inr (.inr (.inr ⟨by omega, by cases M <;> simp <;> omega⟩)))))

set_option maxHeartbeats 4000000 in
theorem plain_any (x : UInt8) (w : World) : Calls Tryd.prog 36 #[.int .u8 (x.toNat : Int)] w fun e w' => e = .returned (.bool (plB x)) ∧ w = w' := by
  have hib : ∀ W, Calls Tryd.prog 43 #[.string ⟨#[45, 46, 95, 126]⟩, .int .u8 (x.toNat : Int)] W fun e w' => e = .returned (.int .i64 (Lib.indexByte markL x)) ∧ w' = W := fun W => by
    have := Tryd.strings_IndexByte ⟨#[45, 46, 95, 126]⟩ (x.toNat : Int) W
    have e : ((x.toNat : Int).toNat).toUInt8 = x := by simp
    rw [e] at this
    exact this
  have HIB := Lib.hid hib
  obtain ⟨I, hI⟩ : ∃ I, Lib.indexByte markL x = I := ⟨_, rfl⟩
  have hm := idx_mark x
  rw [hI] at HIB hm
  clear hib hI
  rcases pl_case x with ⟨⟨c1, c2⟩, hp⟩ | ⟨⟨c1, c2⟩, hp⟩ | ⟨⟨c1, c2⟩, hp⟩ | ⟨c1, hp⟩ | ⟨⟨c1, c2⟩, hp⟩ | ⟨⟨c1, c2⟩, hp⟩ | ⟨c1, hp⟩
  iterate 3
    · have HP := Lib.hid hp
      clear hp hm
      go_enter Tryd.func36, Tryd.ntmps36
      go_wp2_with fail
      go_ret
      rw [HP.out]
      exact ⟨rfl, rfl⟩
  all_goals
    have HP : Hid (plB x = decide (0 ≤ I)) := by
      show _ = _
      rw [hp, hm]
    clear hp hm
    try have d57 : decide ((x.toNat : Int) ≤ 57) = false := decide_eq_false (by omega)
    try have d90 : decide ((x.toNat : Int) ≤ 90) = false := decide_eq_false (by omega)
    try have d122 : decide ((x.toNat : Int) ≤ 122) = false := decide_eq_false (by omega)
    go_enter Tryd.func36, Tryd.ntmps36
    go_wp2_with fail
    refine (HIB.out _).mono ?_
    rintro e w2 ⟨rfl, rfl⟩
    go_wp2_with fail
    go_ret
    rw [HP.out]
    exact ⟨rfl, rfl⟩

end Go.Proofs.YteldghiejmpknaaDoor
