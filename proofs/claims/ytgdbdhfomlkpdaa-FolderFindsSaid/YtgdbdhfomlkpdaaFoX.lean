/-
  Package folder: finding an item by its name (plain words).
-/
import Derived.Test.YtgdbdhfomlkpdaaFoW
import Derived.Test.YtgdbdhfomlkpdaaFoD
namespace Go.Proofs.Ytgdbdhfomlkpdaa
open Go.RowKit

theorem bl_irr : ∀ a : List UInt8, Op.bytesLess a a = false
  | [] => rfl
  | x :: a => by simp [Op.bytesLess, bl_irr a]
theorem bl_trans : ∀ a b c : List UInt8, Op.bytesLess a b = true → Op.bytesLess b c = true → Op.bytesLess a c = true
  | _, [], _, h, _ => by simp [Op.bytesLess] at h
  | _, _ :: _, [], _, h => by simp [Op.bytesLess] at h
  | [], _ :: _, _ :: _, _, _ => by simp [Op.bytesLess]
  | x :: a, y :: b, z :: c, h1, h2 => by
    simp only [Op.bytesLess, Bool.or_eq_true, Bool.and_eq_true, decide_eq_true_eq, beq_iff_eq] at h1 h2 ⊢
    rcases h1 with h1 | ⟨rfl, h1⟩
    · rcases h2 with h2 | ⟨rfl, h2⟩
      · exact .inl (UInt8.lt_trans h1 h2)
      · exact .inl h1
    · rcases h2 with h2 | ⟨rfl, h2⟩
      · exact .inl h2
      · exact .inr ⟨rfl, bl_trans a b c h1 h2⟩
theorem bl_ne {a b : List UInt8} (h : Op.bytesLess a b = true) : (a == b) = false := by
  by_cases e : a = b
  · subst e
    rw [bl_irr] at h
    cases h
  · simpa using e
theorem bl_ne' {a b : List UInt8} (h : Op.bytesLess a b = true) : (b == a) = false := by
  by_cases e : b = a
  · subst e
    rw [bl_irr] at h
    cases h
  · simpa using e
theorem bound_ex (p : Nat → Bool) : ∀ n, (∀ a b, a ≤ b → b < n → p a = true → p b = true) → ∃ b, b ≤ n ∧ (∀ t, t < b → p t = false) ∧ ∀ t, b ≤ t → t < n → p t = true
  | 0, _ => ⟨0, Nat.le_refl _, fun t h => by omega, fun t _ h => by omega⟩
  | n + 1, hm => by
    obtain ⟨b, h1, h2, h3⟩ := bound_ex p n (fun a b hab hb => hm a b hab (by omega))
    by_cases hb : b < n
    · refine ⟨b, by omega, h2, fun t ht htn => ?_⟩
      by_cases e : t < n
      · exact h3 t ht e
      · exact hm b t ht htn (h3 b (Nat.le_refl _) hb)
    · obtain rfl : b = n := by omega
      cases hp : p b with
      | true =>
        refine ⟨b, by omega, h2, fun t ht htn => ?_⟩
        obtain rfl : t = b := by omega
        exact hp
      | false =>
        refine ⟨b + 1, by omega, fun t ht => ?_, fun t ht htn => by omega⟩
        by_cases e : t < b
        · exact h2 t e
        · obtain rfl : t = b := by omega
          exact hp
theorem count_bound (p : Nat → Bool) (n b : Nat) (h1 : b ≤ n) (h2 : ∀ t, t < b → p t = false) (h3 : ∀ t, b ≤ t → t < n → p t = true) : (List.range n).countP (fun i => !p i) = b := by
  have hr : ∀ t, t < n → (List.range n)[t]! = t := fun t ht => by rw [getElem!_pos _ t (by simpa using ht)]; simp
  refine Lib.countP_boundary _ (List.range n) b (by simpa using h1) (fun t ht => ?_) (fun t h4 h5 => ?_)
  · rw [hr t (by omega), h2 t ht]
    rfl
  · rw [hr t (by simpa using h5), h3 t h4 (by simpa using h5)]
    rfl
/-- The names go up. -/
theorem asc_step {l : List It} (hm : mayL l = true) {k : Nat} {x y : It} (hx : l[k]? = some x) (hy : l[k + 1]? = some y) : Op.bytesLess x.nm.toList y.nm.toList = true := by
  have h := (mayL_inv hm).2 (k + 1) (List.getElem?_eq_some_iff.1 hy).1
  by_cases hl : lessS x.nm y.nm = true
  · exact hl
  · have := okAt_order hy (by omega) (y := x) hx (by simpa using hl)
    rw [h] at this
    cases this
theorem asc {l : List It} (hm : mayL l = true) {k : Nat} {x : It} (hx : l[k]? = some x) : ∀ (d : Nat) {y : It}, l[k + 1 + d]? = some y → Op.bytesLess x.nm.toList y.nm.toList = true
  | 0, y, hy => asc_step hm hx hy
  | d + 1, y, hy => by
    have hlt := (List.getElem?_eq_some_iff.1 hy).1
    have hz : l[k + 1 + d]? = some l[k + 1 + d] := List.getElem?_eq_getElem (by omega)
    exact bl_trans _ _ _ (asc hm hx d hz) (asc_step hm hz (by rw [show k + 1 + d + 1 = k + 1 + (d + 1) by omega]; exact hy))
theorem asc' {l : List It} (hm : mayL l = true) {k j : Nat} {x y : It} (hx : l[k]? = some x) (hkj : k < j) (hy : l[j]? = some y) : Op.bytesLess x.nm.toList y.nm.toList = true :=
  asc hm hx (j - (k + 1)) (by rw [show k + 1 + (j - (k + 1)) = j by omega]; exact hy)
theorem geAt_of {l : List It} {k : Nat} {x : It} (hx : l[k]? = some x) (s : ByteArray) : geAt l s k = !(Op.bytesLess x.nm.toList s.toList) := by
  unfold geAt
  rw [List.getD_eq_getElem?_getD, hx]
  rfl
theorem geAt_mono {l : List It} (hm : mayL l = true) (s : ByteArray) : ∀ a b, a ≤ b → b < l.length → geAt l s a = true → geAt l s b = true := by
  intro a b hab hb h
  rcases Nat.lt_or_ge a b with hlt | hge
  · have hx : l[a]? = some l[a] := List.getElem?_eq_getElem (by omega)
    have hy : l[b]? = some l[b] := List.getElem?_eq_getElem hb
    rw [geAt_of hx] at h
    rw [geAt_of hy]
    have ha := asc' hm hx hlt hy
    cases hc : Op.bytesLess l[b].nm.toList s.toList with
    | false => rfl
    | true =>
      rw [bl_trans _ _ _ ha hc] at h
      cases h
  · obtain rfl : a = b := by omega
    exact h
/-- What Find answers. -/
def findF (l : List It) (s : ByteArray) : It × Int :=
  if mayL l = true then (match l.find? (fun x => x.nm.toList == s.toList) with
    | some x => (x, 0)
    | none => (itZ, 5)) else (itZ, 1)
theorem findF_no {l : List It} (h : mayL l = false) (s : ByteArray) : findF l s = (itZ, 1) := if_neg (by rw [h]; decide)
theorem findF_first {l : List It} (hm : mayL l = true) {s : ByteArray} {k : Nat} {x : It} (hx : l[k]? = some x) (hs : (x.nm.toList == s.toList) = true) (hno : ∀ (t : Nat) (y : It), t < k → l[t]? = some y → (y.nm.toList == s.toList) = false) : findF l s = (x, 0) := by
  unfold findF
  rw [if_pos hm]
  obtain ⟨hk, rfl⟩ := List.getElem?_eq_some_iff.1 hx
  have : l.find? (fun x => x.nm.toList == s.toList) = some l[k] := by
    rw [List.find?_eq_some_iff_getElem]
    refine ⟨hs, k, hk, rfl, fun j hj => ?_⟩
    have := hno j l[j] hj (List.getElem?_eq_getElem (by omega))
    simpa using this
  rw [this]
theorem findF_none {l : List It} (hm : mayL l = true) {s : ByteArray} (hno : ∀ (t : Nat) (y : It), l[t]? = some y → (y.nm.toList == s.toList) = false) : findF l s = (itZ, 5) := by
  unfold findF
  rw [if_pos hm]
  have : l.find? (fun x => x.nm.toList == s.toList) = none := by
    rw [List.find?_eq_none]
    intro x hx
    obtain ⟨t, ht⟩ := List.getElem?_of_mem hx
    rw [hno t x ht]
    decide
  rw [this]
theorem findF_self {l : List It} (hm : mayL l = true) {k : Nat} {x : It} (hx : l[k]? = some x) : findF l x.nm = (x, 0) :=
  findF_first hm hx (by simp) (fun t y ht hy => bl_ne (asc' hm hy ht hx))
/-- What stands at the first place that is not below the name. -/
theorem findF_bound {l : List It} (hm : mayL l = true) {s : ByteArray} {b : Nat} (h2 : ∀ t, t < b → geAt l s t = false) (h3 : ∀ t, b ≤ t → t < l.length → geAt l s t = true) :
    (l.length ≤ b → findF l s = (itZ, 5)) ∧ ∀ x, l[b]? = some x → findF l s = if (x.nm.toList == s.toList) = true then (x, 0) else (itZ, 5) := by
  have hlow : ∀ (t : Nat) (y : It), t < b → l[t]? = some y → (y.nm.toList == s.toList) = false := by
    intro t y ht hy
    have h := h2 t ht
    rw [geAt_of hy] at h
    exact bl_ne (by simpa using h)
  refine ⟨fun hb => findF_none hm (fun t y hy => hlow t y (by have := (List.getElem?_eq_some_iff.1 hy).1; omega) hy), fun x hx => ?_⟩
  by_cases hs : (x.nm.toList == s.toList) = true
  · rw [if_pos hs]
    exact findF_first hm hx hs hlow
  · rw [if_neg hs]
    refine findF_none hm (fun t y hy => ?_)
    rcases Nat.lt_trichotomy t b with hlt | rfl | hgt
    · exact hlow t y hlt hy
    · rw [hx] at hy
      injection hy with hy
      rw [← hy]
      simpa using hs
    · have hge := h3 b (Nat.le_refl _) (List.getElem?_eq_some_iff.1 hx).1
      rw [geAt_of hx] at hge
      have hf := less_flip x.nm.toList s.toList
      rw [hge, Bool.or_eq_true] at hf
      have hsx : Op.bytesLess s.toList x.nm.toList = true := by
        rcases hf with hf | hf
        · exact hf
        · exfalso
          apply hs
          rw [beq_iff_eq] at hf ⊢
          exact hf.symm
      exact bl_ne' (bl_trans _ _ _ hsx (asc' hm hx hgt hy))
theorem findF_ok {l : List It} (ho : ∀ x ∈ l, ItOk x) (s : ByteArray) : ItOk (findF l s).1 := by
  unfold findF
  split
  · split
    · rename_i x hx
      exact ho x (List.mem_of_find?_eq_some hx)
    · exact itZ_ok
  · exact itZ_ok

end Go.Proofs.Ytgdbdhfomlkpdaa
