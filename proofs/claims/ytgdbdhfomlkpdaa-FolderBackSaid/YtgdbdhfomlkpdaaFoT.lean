/-
  Package folder: what a folder cut off, added to or turned comes to (plain words).
-/
import Derived.Test.YtgdbdhfomlkpdaaFoQ
namespace Go.Proofs.Ytgdbdhfomlkpdaa
open Go.RowKit

theorem take_cases (l : List UInt8) : takeF l = ([], 4) ∨ ∃ its, takeF l = (its, 0) ∧ foR its = (l, 0) := by
  by_cases hh : headD l
  · rcases hg : goI (l.getD 2 0).toNat [] (l.drop 3) with _ | ⟨its, q⟩
    · exact .inl (rt_fail hh hg)
    · have h := rt_end hh hg
      by_cases hc : (foR its).2 = 0 ∧ (foR its).1 = l
      · rw [if_pos hc] at h
        exact .inr ⟨its, h, Prod.ext hc.2 hc.1⟩
      · rw [if_neg hc] at h
        exact .inl h
  · exact .inl (rt_no hh)
theorem foR_inv {l : List It} {z : List UInt8} (h : foR l = (z, 0)) : mayL l = true ∧ ¬ 4000 < (foB l).length ∧ z = foB l := by
  by_cases hm : mayL l = true
  · by_cases h4 : 4000 < (foB l).length
    · rw [foR_long hm h4] at h
      simp at h
    · rw [foR_yes hm h4] at h
      simp only [Prod.mk.injEq, and_true] at h
      exact ⟨hm, h4, h.symm⟩
  · rw [foR_no (by simpa using hm)] at h
    simp at h
theorem take_self {l : List It} {b : List UInt8} (hR : foR l = (b, 0)) (ho : ∀ x ∈ l, ItOk x) : takeF b = (l, 0) := by
  obtain ⟨hm, h4, rfl⟩ := foR_inv hR
  exact takeF_foB hm ho h4
theorem foB_three {l : List It} (h : mayL l = true) : foB l = 68 :: 49 :: UInt8.ofNat l.length :: itsBytes l := by
  unfold foB
  rw [countB_small _ (by have := (mayL_inv h).1; omega)]
  rfl
theorem take_more {l : List It} {b q : List UInt8} (hR : foR l = (b, 0)) (ho : ∀ x ∈ l, ItOk x) (hq : q ≠ []) : takeF (b ++ q) = ([], 4) := by
  obtain ⟨hm, h4, rfl⟩ := foR_inv hR
  have h64 := (mayL_inv hm).1
  have hN : (UInt8.ofNat l.length).toNat = l.length := by rw [UInt8.toNat_ofNat']; omega
  have hh : headD (foB l ++ q) := by
    rw [foB_three hm]
    refine ⟨by simp, rfl, ?_⟩
    show (UInt8.ofNat l.length).toNat ≤ 64
    omega
  have hg : goI ((foB l ++ q).getD 2 0).toNat [] ((foB l ++ q).drop 3) = some (l, q) := by
    rw [foB_three hm]
    show goI (UInt8.ofNat l.length).toNat [] (itsBytes l ++ q) = _
    rw [hN]
    exact goI_bytes q l [] (may_items hm) ho
  rw [rt_end hh hg, if_neg]
  rintro ⟨_, h2⟩
  rw [hR] at h2
  have := congrArg List.length h2
  rw [List.length_append] at this
  exact hq (List.eq_nil_of_length_eq_zero (by dsimp only at this; omega))
theorem take_cut {l : List It} {b : List UInt8} {p : Nat} (hR : foR l = (b, 0)) (ho : ∀ x ∈ l, ItOk x) (hp : p < b.length) (hok : ∀ x ∈ (takeF (b.take p)).1, ItOk x) : takeF (b.take p) = ([], 4) := by
  rcases take_cases (b.take p) with h | ⟨m, h1, h2⟩
  · exact h
  · exfalso
    rw [h1] at hok
    have h3 := take_more h2 hok (q := b.drop p) (fun e => by
      have := congrArg List.length e
      rw [List.length_drop] at this
      simp at this
      omega)
    rw [List.take_append_drop, take_self hR ho] at h3
    simp at h3
theorem take_turn {l : List It} {b d : List UInt8} {v : Int} (hR : foR l = (b, 0)) (ho : ∀ x ∈ l, ItOk x) (hd : d = b ↔ v = 0) :
    (takeF d = ([], 4) ∧ v ≠ 0) ∨ ∃ m, takeF d = (m, 0) ∧ foR m = (d, 0) ∧ (m = l ↔ v = 0) := by
  have hb := take_self hR ho
  rcases take_cases d with h | ⟨m, h1, h2⟩
  · refine .inl ⟨h, fun hv => ?_⟩
    rw [hd.2 hv, hb] at h
    simp at h
  · refine .inr ⟨m, h1, h2, fun e => ?_, fun hv => ?_⟩
    · rw [e, hR] at h2
      exact hd.1 (by injection h2 with h2; exact h2.symm)
    · rw [hd.2 hv, hb] at h1
      injection h1 with h1
      exact h1.symm
theorem xor_self_iff (x v : Nat) : x ^^^ v = x ↔ v = 0 := by
  constructor
  · intro h
    have : x ^^^ (x ^^^ v) = x ^^^ x := by rw [h]
    rwa [← Nat.xor_assoc, Nat.xor_self, Nat.zero_xor] at this
  · rintro rfl
    exact Nat.xor_zero x
theorem xor_small (x v : Nat) (hx : x < 256) (hv : v < 256) : x ^^^ v < 256 := Nat.xor_lt_two_pow (n := 8) hx hv
theorem turned_iff {b : List UInt8} {p : Nat} {x : UInt8} (hx : b[p]? = some x) (v : Nat) (hv : v < 256) : b.set p (UInt8.ofNat (x.toNat ^^^ v)) = b ↔ v = 0 := by
  obtain ⟨hp, rfl⟩ := List.getElem?_eq_some_iff.1 hx
  have hs := xor_small b[p].toNat v b[p].toNat_lt hv
  constructor
  · intro h
    have h1 : (b.set p (UInt8.ofNat (b[p].toNat ^^^ v)))[p]? = b[p]? := by rw [h]
    rw [List.getElem?_set_self hp, List.getElem?_eq_getElem hp] at h1
    injection h1 with h1
    have h2 := congrArg UInt8.toNat h1
    rw [UInt8.toNat_ofNat', Nat.mod_eq_of_lt hs] at h2
    exact (xor_self_iff _ _).1 h2
  · rintro rfl
    rw [Nat.xor_zero, UInt8.ofNat_toNat]
    exact List.set_getElem_self hp
theorem xor_u8 (x : UInt8) (v : Nat) (hv : v < 256) : bits .xor .u8 (x.toNat : Int) (v : Int) = ((UInt8.ofNat (x.toNat ^^^ v)).toNat : Int) := by
  rw [u8_xor_nat _ _ x.toNat_lt hv, UInt8.toNat_ofNat', Nat.mod_eq_of_lt (xor_small _ _ x.toNat_lt hv)]

end Go.Proofs.Ytgdbdhfomlkpdaa
