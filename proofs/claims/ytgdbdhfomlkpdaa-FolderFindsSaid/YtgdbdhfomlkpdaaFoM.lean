/-
  Package folder: what was written is read (plain words).
-/
import Derived.Test.YtgdbdhfomlkpdaaFoK
import Derived.Test.YtgdbdhfomlkpdaaPure2
namespace Go.Proofs.Ytgdbdhfomlkpdaa
open Go.RowKit

theorem tt_text (s rest : List UInt8) (h : s.length ≤ 65536) : ttR (countB s.length ++ (s ++ rest)) = (s, (countB s.length).length + s.length, 0) := by
  have h1 := tcR_countB s.length (s ++ rest) (by omega)
  unfold ttR
  rw [h1]
  rw [if_neg (by simp), if_neg (by omega), if_neg (by simp only [List.length_append]; omega)]
  dsimp only
  rw [List.drop_left, List.take_left]
theorem kind_nat {k : Int} (h : k = 1 ∨ k = 2) : (((UInt8.ofNat k.toNat).toNat : Nat) : Int) = k := by
  rcases h with rfl | rfl <;> rfl
theorem itP_bytes {x : It} (h : ItM x) (ho : ItOk x) (q : List UInt8) : itP (itBytes x ++ q) = some (x, q) := by
  have hn := h.name.2.1
  have hl := ho.len
  have hz0 := h.size
  have hz1 := ho.s1
  have hs : x.nm.data.toList.length = x.nm.size := by simp
  have e : itBytes x ++ q = UInt8.ofNat x.kd.toNat :: (countB x.nm.data.toList.length ++ (x.nm.data.toList ++ (x.id ++ (countB x.sz.toNat ++ q)))) := by
    rw [hs]
    simp [itBytes]
  rw [e]
  have h1 := tt_text x.nm.data.toList (x.id ++ (countB x.sz.toNat ++ q)) (by omega)
  generalize hc : countB x.nm.data.toList.length = C at *
  have hd : (C ++ (x.nm.data.toList ++ (x.id ++ (countB x.sz.toNat ++ q)))).drop (C.length + x.nm.data.toList.length) = x.id ++ (countB x.sz.toNat ++ q) := by
    rw [← List.append_assoc C, ← List.length_append]
    exact List.drop_left
  have hd2 : (C ++ (x.nm.data.toList ++ (x.id ++ (countB x.sz.toNat ++ q)))).drop (C.length + x.nm.data.toList.length + 32) = countB x.sz.toNat ++ q := by
    rw [← List.drop_drop, hd, ← hl]
    exact List.drop_left
  have h2 := tcR_countB x.sz.toNat q (by omega)
  simp only [itP]
  rw [h1]
  dsimp only
  rw [hd2, h2, if_neg (by simp), if_neg (by simp only [List.length_append, hl]; omega)]
  dsimp only
  rw [if_neg (by omega), hd, List.drop_left]
  have ht : (x.id ++ (countB x.sz.toNat ++ q)).take 32 = x.id := by
    rw [← hl]
    exact List.take_left
  rw [ht, kind_nat h.kind]
  have e2 : ((x.sz.toNat : Nat) : Int) = x.sz := by omega
  rw [e2]
theorem goI_bytes (q : List UInt8) : ∀ (l acc : List It), (∀ x ∈ l, ItM x) → (∀ x ∈ l, ItOk x) → goI l.length acc (itsBytes l ++ q) = some (acc ++ l, q)
  | [], acc, _, _ => by simp [goI, itsBytes]
  | x :: l, acc, h, ho => by
    have h1 := itP_bytes (h x (by simp)) (ho x (by simp)) (itsBytes l ++ q)
    have e : itsBytes (x :: l) ++ q = itBytes x ++ (itsBytes l ++ q) := by simp [itsBytes]
    rw [e, List.length_cons, goI_some h1, goI_bytes q l _ (fun y hy => h y (by simp [hy])) (fun y hy => ho y (by simp [hy]))]
    simp
theorem may_items {l : List It} (h : mayL l = true) : ∀ x ∈ l, ItM x := by
  intro x hx
  obtain ⟨k, hk⟩ := List.getElem?_of_mem hx
  exact okAt_inv hk ((mayL_inv h).2 k (List.getElem?_eq_some_iff.1 hk).1)
theorem foB_take (l : List It) : (foB l).take 2 = [68, 49] := by simp [foB]
theorem foB_drop (l : List It) : (foB l).drop 2 = countB l.length ++ itsBytes l := by simp [foB]
/-- What Bytes wrote is read. -/
theorem takeF_foB {l : List It} (h : mayL l = true) (ho : ∀ x ∈ l, ItOk x) (h4 : ¬ 4000 < (foB l).length) : takeF (foB l) = (l, 0) := by
  have h64 := (mayL_inv h).1
  have h1 := tcR_countB l.length (itsBytes l) (by omega)
  have hg := goI_bytes [] l [] (may_items h) ho
  rw [List.append_nil, List.nil_append] at hg
  rw [takeF_go (N := l.length) (k := (countB l.length).length) (by rw [foB_take]; simp; omega) (by rw [foB_drop]; exact h1) h64, foB_drop, List.drop_left, hg]
  exact if_neg (by rw [h]; simp)

end Go.Proofs.Ytgdbdhfomlkpdaa
