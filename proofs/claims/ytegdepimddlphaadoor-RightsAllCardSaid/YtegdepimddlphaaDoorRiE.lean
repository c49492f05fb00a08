/-
  The law RightsLattice.
-/
import Derived.Test.YtegdepimddlphaaDoorRiD
namespace Go.Proofs.YtegdepimddlphaaDoor
open Go.RowKit

theorem and_lt {a b : Nat} (h : a < 256) : a &&& b < 256 := Nat.lt_of_le_of_lt Nat.and_le_left h
theorem or_lt {a b : Nat} (h1 : a < 256) (h2 : b < 256) : a ||| b < 256 := Nat.or_lt_two_pow (n := 8) h1 h2
theorem covers_bit {a b : Nat} (ha : a < 256) (hb : b < 256) : coversB a b = true ↔ ∀ i, b.testBit i = true → a.testBit i = true := by
  unfold coversB
  rw [beq_iff_eq]
  constructor
  · intro h i hi
    have h2 := congrArg (fun n => n.testBit i) h
    simp only [Nat.testBit_and, Nat.zero_testBit, hi, Bool.true_and] at h2
    have h3 : (255 - a).testBit i = (decide (i < 8) && !a.testBit i) := by
      have := Nat.testBit_two_pow_sub_succ (n := 8) (x := a) ha i
      rw [show 2 ^ 8 - (a + 1) = 255 - a by omega] at this
      exact this
    rw [h3] at h2
    by_cases hi8 : i < 8
    · simpa [hi8] using h2
    · have : b.testBit i = false := Nat.testBit_lt_two_pow (Nat.lt_of_lt_of_le hb (Nat.pow_le_pow_right (n := 2) (by omega) (by omega : 8 ≤ i)))
      rw [this] at hi
      cases hi
  · intro h
    apply Nat.eq_of_testBit_eq
    intro i
    have h3 : (255 - a).testBit i = (decide (i < 8) && !a.testBit i) := by
      have := Nat.testBit_two_pow_sub_succ (n := 8) (x := a) ha i
      rw [show 2 ^ 8 - (a + 1) = 255 - a by omega] at this
      exact this
    rw [Nat.testBit_and, h3, Nat.zero_testBit]
    cases hbi : b.testBit i
    · simp
    · rw [h i hbi]
      simp
theorem covers_meet {a b : Nat} (ha : a < 256) (hb : b < 256) : (a &&& b == b) = coversB a b := by
  rw [Bool.eq_iff_iff, covers_bit ha hb, beq_iff_eq]
  constructor
  · intro h i hi
    have h2 := congrArg (fun n => n.testBit i) h
    simp only [Nat.testBit_and, hi, Bool.and_true] at h2
    exact h2
  · intro h
    apply Nat.eq_of_testBit_eq
    intro i
    rw [Nat.testBit_and]
    cases hbi : b.testBit i
    · simp
    · rw [h i hbi]
      rfl
theorem covers_join {a b : Nat} (ha : a < 256) (hb : b < 256) : (a ||| b == a) = coversB a b := by
  rw [Bool.eq_iff_iff, covers_bit ha hb, beq_iff_eq]
  constructor
  · intro h i hi
    have h2 := congrArg (fun n => n.testBit i) h
    simp only [Nat.testBit_or, hi, Bool.or_true] at h2
    exact h2.symm
  · intro h
    apply Nat.eq_of_testBit_eq
    intro i
    rw [Nat.testBit_or]
    cases hbi : b.testBit i
    · simp
    · rw [h i hbi]
      rfl
theorem covers_least {a b c : Nat} (ha : a < 256) (hb : b < 256) (hc : c < 256) (h1 : coversB c a = true) (h2 : coversB c b = true) : coversB c (a ||| b) = true := by
  rw [covers_bit hc (or_lt ha hb)]
  rw [covers_bit hc ha] at h1
  rw [covers_bit hc hb] at h2
  intro i hi
  rw [Nat.testBit_or, Bool.or_eq_true] at hi
  rcases hi with h | h
  · exact h1 i h
  · exact h2 i h
theorem absorb1 (a b : Nat) : a &&& (a ||| b) = a := by
  apply Nat.eq_of_testBit_eq
  intro i
  rw [Nat.testBit_and, Nat.testBit_or]
  cases a.testBit i <;> simp
theorem absorb2 (a b : Nat) : a ||| (a &&& b) = a := by
  apply Nat.eq_of_testBit_eq
  intro i
  rw [Nat.testBit_or, Nat.testBit_and]
  cases a.testBit i <;> simp
theorem distrib (a b c : Nat) : a &&& (b ||| c) = (a &&& b) ||| (a &&& c) := by
  apply Nat.eq_of_testBit_eq
  intro i
  simp only [Nat.testBit_or, Nat.testBit_and]
  cases a.testBit i <;> simp

/-- Calls whose answers are known. -/
def MeetIs (a b m : Nat) : Prop := ∀ w, Calls Tryd.prog 13 #[.int .u8 (a : Int), .int .u8 (b : Int)] w fun e w' => e = .returned (.int .u8 (m : Int)) ∧ w = w'
def JoinIs (a b m : Nat) : Prop := ∀ w, Calls Tryd.prog 14 #[.int .u8 (a : Int), .int .u8 (b : Int)] w fun e w' => e = .returned (.int .u8 (m : Int)) ∧ w = w'
def CoversIs (a b : Nat) (m : Bool) : Prop := ∀ w, Calls Tryd.prog 15 #[.int .u8 (a : Int), .int .u8 (b : Int)] w fun e w' => e = .returned (.bool m) ∧ w = w'
theorem meetIs {a b m : Nat} (ha : a < 256) (hb : b < 256) (h : a &&& b = m) : MeetIs a b m := by
  subst h
  exact fun w => Meet_any a b ha hb w
theorem joinIs {a b m : Nat} (ha : a < 256) (hb : b < 256) (h : a ||| b = m) : JoinIs a b m := by
  subst h
  exact fun w => Join_any a b ha hb w
theorem coversIs {a b : Nat} {m : Bool} (ha : a < 256) (hb : b < 256) (h : coversB a b = m) : CoversIs a b m := by
  subst h
  exact fun w => Covers_any a b ha hb w

set_option maxHeartbeats 16000000 in
theorem lattice_walk {w : World} (a b c : Nat) (ha : a < 256) (hb : b < 256) (hc : c < 256) : Calls Tryd.prog 5 #[.int .u8 (a : Int), .int .u8 (b : Int), .int .u8 (c : Int)] w fun e w' => e = .returned (.bool true) ∧ Below w.heap.size w w' := by
  obtain ⟨m, hm⟩ : ∃ m, a &&& b = m := ⟨_, rfl⟩
  obtain ⟨j, hj⟩ : ∃ j, a ||| b = j := ⟨_, rfl⟩
  obtain ⟨n, hn⟩ : ∃ n, b &&& c = n := ⟨_, rfl⟩
  obtain ⟨v, hv⟩ : ∃ v, b ||| c = v := ⟨_, rfl⟩
  obtain ⟨t, ht⟩ : ∃ t, m &&& c = t := ⟨_, rfl⟩
  obtain ⟨u, hu⟩ : ∃ u, j ||| c = u := ⟨_, rfl⟩
  obtain ⟨y, hy⟩ : ∃ y, a &&& c = y := ⟨_, rfl⟩
  obtain ⟨x, hx⟩ : ∃ x, m ||| y = x := ⟨_, rfl⟩
  obtain ⟨cb, hcb⟩ : ∃ cb, coversB a b = cb := ⟨_, rfl⟩
  obtain ⟨p, hp⟩ : ∃ p, coversB c a = p := ⟨_, rfl⟩
  obtain ⟨q, hq⟩ : ∃ q, coversB c b = q := ⟨_, rfl⟩
  obtain ⟨r, hr⟩ : ∃ r, coversB c j = r := ⟨_, rfl⟩
  have hm8 : m < 256 := hm ▸ and_lt ha
  have hj8 : j < 256 := hj ▸ or_lt ha hb
  have hn8 : n < 256 := hn ▸ and_lt hb
  have hv8 : v < 256 := hv ▸ or_lt hb hc
  have hy8 : y < 256 := hy ▸ and_lt ha
  have M1 := Lib.hid (meetIs ha hb hm)
  have J1 := Lib.hid (joinIs ha hb hj)
  have M2 := Lib.hid (meetIs ha ha (Nat.and_self a))
  have J2 := Lib.hid (joinIs ha ha (Nat.or_self a))
  have M3 := Lib.hid (meetIs hb ha ((Nat.and_comm b a).trans hm))
  have J3 := Lib.hid (joinIs hb ha ((Nat.or_comm b a).trans hj))
  have M4 := Lib.hid (meetIs hm8 hc ht)
  have M5 := Lib.hid (meetIs hb hc hn)
  have M6 := Lib.hid (meetIs (m := t) ha hn8 (by rw [← hn, ← Nat.and_assoc, hm, ht]))
  have J4 := Lib.hid (joinIs hj8 hc hu)
  have J5 := Lib.hid (joinIs hb hc hv)
  have J6 := Lib.hid (joinIs (m := u) ha hv8 (by rw [← hv, ← Nat.or_assoc, hj, hu]))
  have M7 := Lib.hid (meetIs (m := a) ha hj8 (by rw [← hj, absorb1]))
  have J7 := Lib.hid (joinIs (m := a) ha hm8 (by rw [← hm, absorb2]))
  have M8 := Lib.hid (meetIs (m := x) ha hv8 (by rw [← hv, distrib, hm, hy, hx]))
  have M9 := Lib.hid (meetIs ha hc hy)
  have J8 := Lib.hid (joinIs hm8 hy8 hx)
  have C1 := Lib.hid (coversIs ha hb hcb)
  have C2 := Lib.hid (coversIs hc ha hp)
  have C3 := Lib.hid (coversIs hc hb hq)
  have C4 := Lib.hid (coversIs hc hj8 hr)
  have e1 : ((m : Int) == (b : Int)) = cb := by
    rw [← hcb, ← covers_meet ha hb, hm, Bool.eq_iff_iff]
    simp only [beq_iff_eq]
    omega
  have e2 : ((j : Int) == (a : Int)) = cb := by
    rw [← hcb, ← covers_join ha hb, hj, Bool.eq_iff_iff]
    simp only [beq_iff_eq]
    omega
  have e3 : p = true → q = true → r = true := by
    intro h1 h2
    rw [← hr, ← hj]
    exact covers_least ha hb hc (hp.trans h1) (hq.trans h2)
  have E3 := Lib.hid e3
  clear hm hj hn hv ht hu hy hx hcb hp hq hr e3
  cases cb
  all_goals cases p
  all_goals cases q
  all_goals
    first
      | (have r1 : r = true := E3.out rfl rfl
         subst r1)
      | (have tok : True := trivial)
    go_enter Tryd.func5, Tryd.ntmps5
    go_wp2_with (go_at_call 8; refine (begun_any _).mono ?_; rintro e w1 ⟨rfl, rfl⟩)
    refine (M1.out _).mono ?_
    rintro e w1 ⟨rfl, rfl⟩
    go_wp2_with fail
    refine (J1.out _).mono ?_
    rintro e w1 ⟨rfl, rfl⟩
    go_wp2_with fail
    refine (M2.out _).mono ?_
    rintro e w1 ⟨rfl, rfl⟩
    go_wp2_with fail
    refine (J2.out _).mono ?_
    rintro e w1 ⟨rfl, rfl⟩
    go_wp2_with fail
    refine (M3.out _).mono ?_
    rintro e w1 ⟨rfl, rfl⟩
    go_wp2_with fail
    refine (J3.out _).mono ?_
    rintro e w1 ⟨rfl, rfl⟩
    go_wp2_with fail
    refine (M4.out _).mono ?_
    rintro e w1 ⟨rfl, rfl⟩
    go_wp2_with fail
    refine (M5.out _).mono ?_
    rintro e w1 ⟨rfl, rfl⟩
    go_wp2_with fail
    refine (M6.out _).mono ?_
    rintro e w1 ⟨rfl, rfl⟩
    go_wp2_with fail
    refine (J4.out _).mono ?_
    rintro e w1 ⟨rfl, rfl⟩
    go_wp2_with fail
    refine (J5.out _).mono ?_
    rintro e w1 ⟨rfl, rfl⟩
    go_wp2_with fail
    refine (J6.out _).mono ?_
    rintro e w1 ⟨rfl, rfl⟩
    go_wp2_with fail
    refine (M7.out _).mono ?_
    rintro e w1 ⟨rfl, rfl⟩
    go_wp2_with fail
    refine (J7.out _).mono ?_
    rintro e w1 ⟨rfl, rfl⟩
    go_wp2_with fail
    refine (J5.out _).mono ?_
    rintro e w1 ⟨rfl, rfl⟩
    go_wp2_with fail
    refine (M8.out _).mono ?_
    rintro e w1 ⟨rfl, rfl⟩
    go_wp2_with fail
    refine (M9.out _).mono ?_
    rintro e w1 ⟨rfl, rfl⟩
    go_wp2_with fail
    refine (J8.out _).mono ?_
    rintro e w1 ⟨rfl, rfl⟩
    go_wp2_with fail
    refine (C1.out _).mono ?_
    rintro e w1 ⟨rfl, rfl⟩
    go_wp2_with fail
    refine (C1.out _).mono ?_
    rintro e w1 ⟨rfl, rfl⟩
    go_wp2_with fail
    refine (C2.out _).mono ?_
    rintro e w1 ⟨rfl, rfl⟩
    go_wp2_with fail
    first
      | (go_ret; exact ⟨rfl, Below.refl _ _⟩)
      | (refine (C3.out _).mono ?_
         rintro e w1 ⟨rfl, rfl⟩
         go_wp2_with fail
         first
           | (go_ret; exact ⟨rfl, Below.refl _ _⟩)
           | (refine (C4.out _).mono ?_
              rintro e w1 ⟨rfl, rfl⟩
              go_wp2_with fail
              go_ret
              exact ⟨rfl, Below.refl _ _⟩))

theorem rightsLattice_walk {w : World} (a : Int) (a0 : 0 ≤ a) (a1 : a ≤ 255) (b : Int) (b0 : 0 ≤ b) (b1 : b ≤ 255) (c : Int) (c0 : 0 ≤ c) (c1 : c ≤ 255) : Calls Tryd.prog 5 #[.int .u8 a, .int .u8 b, .int .u8 c] w fun e w' => e = .returned (.bool true) ∧ Below w.heap.size w w' := by
  obtain ⟨x, rfl⟩ := Int.eq_ofNat_of_zero_le a0
  obtain ⟨y, rfl⟩ := Int.eq_ofNat_of_zero_le b0
  obtain ⟨z, rfl⟩ := Int.eq_ofNat_of_zero_le c0
  exact lattice_walk x y z (by omega) (by omega) (by omega)

end Go.Proofs.YtegdepimddlphaaDoor
