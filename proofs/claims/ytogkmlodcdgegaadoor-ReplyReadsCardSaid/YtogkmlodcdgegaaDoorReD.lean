/-
  Package reply: behind, number.
-/
import Derived.Test.YtogkmlodcdgegaaDoorReC
import Derived.Test.YtogkmlodcdgegaaDoorNaL
import Derived.Test.YtogkmlodcdgegaaDoorStrF
import Derived.OwnWalk
namespace Go.Proofs.YtogkmlodcdgegaaDoor
open Go.RowKit

/-- What stands behind t, if s begins with it. -/
def behindL (s t : List UInt8) : List UInt8 × Int := if Lib.hasPrefix s t = true then (s.drop t.length, 0) else if Lib.hasPrefix t s = true then ([], 3) else ([], 4)
theorem hp_iff (s t : List UInt8) : Lib.hasPrefix s t = true ↔ t <+: s := List.isPrefixOf_iff_prefix
theorem pre_any (s t : List UInt8) (w : World) : Calls Tryd.prog 31 #[.string ⟨s.toArray⟩, .string ⟨t.toArray⟩] w fun e w' => e = .returned (.bool (Lib.hasPrefix s t)) ∧ w = w' := by
  refine (Tryd.strings_HasPrefix ⟨s.toArray⟩ ⟨t.toArray⟩ w).mono ?_
  rintro e w' ⟨rfl, rfl⟩
  exact ⟨rfl, rfl⟩
theorem behind_any (s t : List UInt8) (w : World) : Calls Tryd.prog 24 #[.string ⟨s.toArray⟩, .string ⟨t.toArray⟩] w fun e w' => e = .returned (.tuple #[.string ⟨(behindL s t).1.toArray⟩, .int .i64 (behindL s t).2]) ∧ w = w' := by
  have H1 := Lib.hid (pre_any s t w)
  have H2 := Lib.hid (pre_any t s w)
  by_cases h1 : Lib.hasPrefix s t = true
  · have hb : behindL s t = (s.drop t.length, 0) := if_pos h1
    rw [hb]
    have hle := ((hp_iff s t).1 h1).length_le
    have hsl := run_str_l (P := Tryd.prog) Tryd.underlying9 s t.length hle (kl := .i64)
    rw [h1] at H1
    clear h1 hb hle
    go_enter Tryd.func24, Tryd.ntmps24
    go_wp2_with fail
    refine H1.out.mono ?_
    rintro e w1 ⟨rfl, rfl⟩
    go_wp2_with fail
    go_ret2
    exact ⟨rfl, rfl⟩
  · have h1' : Lib.hasPrefix s t = false := by simpa using h1
    rw [h1'] at H1
    by_cases h2 : Lib.hasPrefix t s = true
    · have hb : behindL s t = ([], 3) := by unfold behindL; rw [if_neg h1, if_pos h2]
      rw [hb]
      rw [h2] at H2
      clear h1 h1' h2 hb
      go_enter Tryd.func24, Tryd.ntmps24
      go_wp2_with fail
      refine H1.out.mono ?_
      rintro e w1 ⟨rfl, rfl⟩
      go_wp2_with fail
      refine H2.out.mono ?_
      rintro e w1 ⟨rfl, rfl⟩
      go_wp2_with fail
      go_ret2
      exact ⟨rfl, rfl⟩
    · have hb : behindL s t = ([], 4) := by unfold behindL; rw [if_neg h1, if_neg h2]
      rw [hb]
      have h2' : Lib.hasPrefix t s = false := by simpa using h2
      rw [h2'] at H2
      clear h1 h1' h2 h2' hb
      go_enter Tryd.func24, Tryd.ntmps24
      go_wp2_with fail
      refine H1.out.mono ?_
      rintro e w1 ⟨rfl, rfl⟩
      go_wp2_with fail
      refine H2.out.mono ?_
      rintro e w1 ⟨rfl, rfl⟩
      go_wp2_with fail
      go_ret2
      exact ⟨rfl, rfl⟩

/-- A decimal digit. -/
def isD (x : UInt8) : Bool := decide (48 ≤ (x.toNat : Int)) && decide ((x.toNat : Int) ≤ 57)
/-- How many digits stand at the front. -/
def runL : List UInt8 → Nat
  | [] => 0
  | x :: l => if isD x then runL l + 1 else 0
theorem runL_le : ∀ l : List UInt8, runL l ≤ l.length
  | [] => Nat.le_refl _
  | x :: l => by
    rw [runL]
    split
    · have := runL_le l
      simpa using this
    · exact Nat.zero_le _
theorem runL_at : ∀ (l : List UInt8) (k : Nat), k < runL l → ∃ x, l[k]? = some x ∧ isD x = true
  | [], k, h => by simp [runL] at h
  | x :: l, k, h => by
    rw [runL] at h
    split at h
    · rename_i hx
      match k with
      | 0 => exact ⟨x, rfl, hx⟩
      | k + 1 =>
        obtain ⟨y, h1, h2⟩ := runL_at l k (by omega)
        exact ⟨y, by simpa using h1, h2⟩
    · omega
theorem runL_end : ∀ (l : List UInt8) (x : UInt8), l[runL l]? = some x → isD x = false
  | [], x, h => by simp [runL] at h
  | y :: l, x, h => by
    rw [runL] at h
    split at h
    · rename_i hy
      exact runL_end l x (by simpa using h)
    · rename_i hy
      obtain rfl : y = x := by simpa using h
      simpa using hy
/-- The number at the front, what stands behind it, and the error's number. -/
noncomputable def numberL (s : List UInt8) : Int × List UInt8 × Int :=
  if s = [] then (0, [], 3) else if (numR ⟨(s.take (runL s)).toArray⟩).2 ≠ 0 then (0, [], 4) else ((numR ⟨(s.take (runL s)).toArray⟩).1, s.drop (runL s), 0)

set_option maxRecDepth 20000 in
set_option maxHeartbeats 4000000 in
theorem number_any (s : List UInt8) (hrn : runL s ≤ 4096) (hs : s.length ≤ 1073741824) (w : World) : Calls Tryd.prog 25 #[.string ⟨s.toArray⟩] w fun e w' => e = .returned (.tuple #[.int .i64 (numberL s).1, .string ⟨(numberL s).2.1.toArray⟩, .int .i64 (numberL s).2.2]) ∧ Below w.heap.size w w' := by
  obtain ⟨K, hK⟩ : ∃ K, runL s = K := ⟨_, rfl⟩
  have hKl : K ≤ s.length := hK ▸ runL_le s
  have hK4 : K ≤ 4096 := hK ▸ hrn
  have hat := runL_at s
  have hend := runL_end s
  rw [hK] at hat hend
  have HAT := Lib.hid hat
  have HEND := Lib.hid hend
  have HN := Lib.hid (Number_any ⟨(s.take K).toArray⟩ (by rw [size_mk, List.length_take]; omega) w)
  obtain ⟨R, hR⟩ : ∃ R, numR ⟨(s.take K).toArray⟩ = R := ⟨_, rfl⟩
  rw [hR] at HN
  have hnum : numberL s = if s = [] then (0, [], 3) else if R.2 ≠ 0 then (0, [], 4) else (R.1, s.drop K, 0) := by
    unfold numberL
    rw [hK, hR]
  have HNUM := Lib.hid hnum
  have hsh := run_str_h (P := Tryd.prog) Tryd.underlying9 s K hKl (kh := .i64)
  have hsl := run_str_l (P := Tryd.prog) Tryd.underlying9 s K hKl (kl := .i64)
  have HSH := Lib.hid hsh
  have HSL := Lib.hid hsl
  clear hat hend hnum hR hK hsh hsl hrn
  obtain ⟨N, E⟩ := R
  dsimp only at HN HNUM
  go_enter Tryd.func25, Tryd.ntmps25
  go_wp2_with fail
  go_loop [5] (fun i => ∃ k : Nat, k ≤ K ∧ i = .int .i64 k) (fun i => K - (intOf i).toNat)
  case atStart => exact ⟨0, by omega, rfl⟩
  case round =>
    obtain ⟨k, hk, rfl⟩ := hrel
    by_cases hkK : k < K
    · obtain ⟨x, hx, hd⟩ := HAT.out k hkK
      have hi := run_str_at (P := Tryd.prog) Tryd.underlying9 s k x hx (kl := .i64)
      have hks : (k : Int) < s.length := by omega
      have hd1 : (48 : Int) ≤ (x.toNat : Int) ∧ (x.toNat : Int) ≤ 57 := by simpa [isD] using hd
      obtain ⟨d1, d2⟩ := hd1
      clear hx hd
      go_wp2_with fail
      go_round
      case rel => exact ⟨k + 1, by omega, by go_num⟩
      case measure => simp [intOf]; omega
    · obtain rfl : k = K := by omega
      clear hkK
      have tail : ∀ (h0 : ¬ s = []), 0 < s.length := fun h0 => List.length_pos_iff.2 h0
      have hcase : s = [] ∨ (s ≠ [] ∧ k = s.length) ∨ (∃ x : UInt8, s ≠ [] ∧ k < s.length ∧ s[k]? = some x ∧ ((x.toNat : Int) < 48 ∨ (48 ≤ (x.toNat : Int) ∧ (57 : Int) < (x.toNat : Int)))) := by
        by_cases h0 : s = []
        · exact .inl h0
        · by_cases hl : k = s.length
          · exact .inr (.inl ⟨h0, hl⟩)
          · have hlt : k < s.length := by omega
            have hx : s[k]? = some s[k] := List.getElem?_eq_getElem hlt
            have hn := HEND.out _ hx
            refine .inr (.inr ⟨s[k], h0, hlt, hx, ?_⟩)
            by_cases h1 : (s[k].toNat : Int) < 48
            · exact .inl h1
            · refine .inr ⟨by omega, ?_⟩
              by_cases h2 : (57 : Int) < (s[k].toNat : Int)
              · exact h2
              · have : isD s[k] = true := by
                  simp only [isD, Bool.and_eq_true, decide_eq_true_eq]
                  omega
                rw [this] at hn
                cases hn
      clear tail
      have HC := Lib.hid hcase
      clear hcase
      rcases HC.out with h0 | ⟨h0, hl⟩ | ⟨x, h0, hl, hx, hd⟩
      · subst h0
        have hnm : numberL [] = (0, [], 3) := if_pos rfl
        have HNM := Lib.hid hnm
        obtain rfl : k = 0 := by simpa using hKl
        clear hnm
        go_wp2_with fail
        go_ret3
        rw [HNM.out]
        exact ⟨rfl, Below.refl _ _⟩
      · have hls : (0 : Int) < s.length := by have := List.length_pos_iff.2 h0; omega
        have hl0 : ((s.length : Int) == 0) = false := by simp; omega
        have hl1 : (s.length == 0) = false := by simp; omega
        have hkl : (s.length : Int) ≤ k := by omega
        rw [if_neg h0] at HNUM
        clear hl
        by_cases hE : E = 0
        · subst hE
          rw [if_neg (by simp)] at HNUM
          clear h0
          have hsl := HSL.out
          have hsh := HSH.out
          go_wp2_with fail
          refine HN.out.mono ?_
          rintro e w1 ⟨rfl, rfl⟩
          clear hsh
          go_wp2_with fail
          go_quiet (fail)
          go_wp2_with fail
          go_ret3
          rw [HNUM.out]
          exact ⟨rfl, below_drewN (Below.refl _ _) nq⟩
        · have hE' : (E != 0) = true := by simpa using hE
          rw [if_pos hE] at HNUM
          clear h0 hE
          have hsh := HSH.out
          go_wp2_with fail
          refine HN.out.mono ?_
          rintro e w1 ⟨rfl, rfl⟩
          clear hsh
          go_wp2_with fail
          go_ret3
          rw [HNUM.out]
          exact ⟨rfl, Below.refl _ _⟩
      · have hls : (0 : Int) < s.length := by have := List.length_pos_iff.2 h0; omega
        have hl0 : ((s.length : Int) == 0) = false := by simp; omega
        have hl1 : (s.length == 0) = false := by simp; omega
        have hkl : (k : Int) < s.length := by omega
        have hi := run_str_at (P := Tryd.prog) Tryd.underlying9 s k x hx (kl := .i64)
        rw [if_neg h0] at HNUM
        clear hl hx
        rcases hd with hd | ⟨hd, hd2⟩
        all_goals
          by_cases hE : E = 0
          · subst hE
            rw [if_neg (by simp)] at HNUM
            clear h0
            have hsl := HSL.out
            have hsh := HSH.out
            go_wp2_with fail
            refine HN.out.mono ?_
            rintro e w1 ⟨rfl, rfl⟩
            clear hsh
            go_wp2_with fail
            go_quiet (fail)
            go_wp2_with fail
            go_ret3
            rw [HNUM.out]
            exact ⟨rfl, below_drewN (Below.refl _ _) nq⟩
          · have hE' : (E != 0) = true := by simpa using hE
            rw [if_pos hE] at HNUM
            clear h0 hE
            have hsh := HSH.out
            go_wp2_with fail
            refine HN.out.mono ?_
            rintro e w1 ⟨rfl, rfl⟩
            clear hsh
            go_wp2_with fail
            go_ret3
            rw [HNUM.out]
            exact ⟨rfl, Below.refl _ _⟩

end Go.Proofs.YtogkmlodcdgegaaDoor
