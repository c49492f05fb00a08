/-
  Package folder: the bytes of a folder, in plain words.
-/
import Derived.Test.YtgdbdhfomlkpdaaFoD
import Derived.Test.YtgdbdhfomlkpdaaOct3
namespace Go.Proofs.Ytgdbdhfomlkpdaa
open Go.RowKit

theorem count_le (v : Nat) (h : v ≤ 18446744073709551615) : (countB v).length ≤ 10 := countB_length 9 v (by omega)
/-- An item's bytes. -/
def itBytes (x : It) : List UInt8 := UInt8.ofNat x.kd.toNat :: (countB x.nm.size ++ x.nm.data.toList ++ x.id ++ countB x.sz.toNat)
def itsBytes (l : List It) : List UInt8 := l.flatMap itBytes
def foB (l : List It) : List UInt8 := [68, 49] ++ countB l.length ++ itsBytes l
/-- What Bytes answers. -/
def foR (l : List It) : List UInt8 × Int := if mayL l = true then (if 4000 < (foB l).length then ([], 2) else (foB l, 0)) else ([], 1)
theorem foR_no {l : List It} (h : mayL l = false) : foR l = ([], 1) := if_neg (by rw [h]; decide)
theorem foR_long {l : List It} (h : mayL l = true) (h2 : 4000 < (foB l).length) : foR l = ([], 2) := (if_pos h).trans (if_pos h2)
theorem foR_yes {l : List It} (h : mayL l = true) (h2 : ¬ 4000 < (foB l).length) : foR l = (foB l, 0) := (if_pos h).trans (if_neg h2)
/-- What is known of an item that may be. -/
structure ItM (x : It) : Prop where
  name : nameOk x.nm
  kind : x.kd = 1 ∨ x.kd = 2
  size : 0 ≤ x.sz
  none : x.kd = 2 → x.sz = 0
theorem itOk1_inv {x : It} (h : itOk1 x = true) : ItM x := by
  unfold itOk1 at h
  simp only [Bool.and_eq_true, Bool.or_eq_true, beq_iff_eq, decide_eq_true_eq] at h
  obtain ⟨⟨h1, h2⟩, h3⟩ := h
  refine ⟨of_decide_eq_true h1, ?_, h2, ?_⟩
  · rcases h3 with h | ⟨h, _⟩
    · exact .inl h
    · exact .inr h
  · intro hk
    rcases h3 with h | ⟨_, h⟩
    · omega
    · exact h
theorem okAt_inv {l : List It} {k : Nat} {x : It} (hx : l[k]? = some x) (h : okAt l k = true) : ItM x := by
  unfold okAt at h
  rw [hx] at h
  simp only [Bool.and_eq_true] at h
  exact itOk1_inv h.1
theorem itBytes_len {x : It} (h : ItM x) (ho : ItOk x) : (itBytes x).length ≤ 117 := by
  have h1 := h.name.2.1
  have h2 := count_le x.nm.size (by omega)
  have h3 := count_le x.sz.toNat (by have := ho.s1; omega)
  have h4 := ho.len
  have h5 : x.nm.data.toList.length = x.nm.size := by simp
  simp only [itBytes, List.length_cons, List.length_append, h4, h5]
  omega
/-- What is written ahead of item k. -/
def foT (l : List It) (k : Nat) : List UInt8 := [68, 49] ++ countB l.length ++ itsBytes (l.take k)
theorem foT_zero (l : List It) : foT l 0 = [68, 49] ++ countB l.length := by simp [foT, itsBytes]
theorem foT_all (l : List It) : foT l l.length = foB l := by simp [foT, foB]
theorem foT_next {l : List It} {k : Nat} {x : It} (hx : l[k]? = some x) : foT l (k + 1) = foT l k ++ itBytes x := by
  obtain ⟨hk, rfl⟩ := List.getElem?_eq_some_iff.1 hx
  unfold foT itsBytes
  rw [List.take_succ_eq_append_getElem hk, List.flatMap_append]
  simp
theorem foT_len {l : List It} (h : mayL l = true) (ho : ∀ x ∈ l, ItOk x) : ∀ k, k ≤ l.length → (foT l k).length ≤ 12 + 117 * k
  | 0, _ => by
    rw [foT_zero]
    have := count_le l.length (by have := (mayL_inv h).1; omega)
    simp only [List.length_append, List.length_cons, List.length_nil]
    omega
  | k + 1, hk => by
    have hx : l[k]? = some l[k] := List.getElem?_eq_getElem (by omega)
    rw [foT_next hx, List.length_append]
    have h1 := foT_len h ho k (by omega)
    have h2 := itBytes_len (okAt_inv hx ((mayL_inv h).2 k (by omega))) (ho _ (List.getElem_mem (by omega)))
    omega
/-- What an item adds, piece by piece. -/
theorem foT_parts {l : List It} {k : Nat} {x : It} (hx : l[k]? = some x) : foT l (k + 1) = ((foT l k ++ [UInt8.ofNat x.kd.toNat]) ++ countB x.nm.size ++ x.nm.data.toList) ++ x.id ++ countB x.sz.toNat := by
  rw [foT_next hx]
  simp [itBytes]
theorem kind_byte {k : Int} (h : k = 1 ∨ k = 2) : b8 (UInt8.ofNat k.toNat) = .int .u8 k := by
  rcases h with rfl | rfl <;> rfl
theorem ItB.app {w2 w3 : World} {g : Nat} {x : It} {A : Option Addr} (h : ItB w2 g x) (ob : Obj) (hg : (w2.alloc ob).grownBy w3 (blk A)) (hne : ∀ q, blk A = some q → q < g) : ItB w3 g x := by
  refine h.keep ?_
  have hl := h.lt
  rw [hg.block g (by simp; omega) (fun e => by have := hne g e.symm; omega)]
  exact ((Below.refl w2.heap.size w2).alloc (Nat.le_refl _) ob).block g hl

end Go.Proofs.Ytgdbdhfomlkpdaa
