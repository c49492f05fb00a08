/-
  The order of decimal texts, in plain words.
-/
import Derived.Test.YtogkmlodcdgegaaDoorNaE
namespace Go.Proofs.YtogkmlodcdgegaaDoor
open Go.RowKit

def vL : List UInt8 → Nat → Nat
  | [], a => a
  | x :: l, a => vL l (10 * a + (x.toNat - 48))
theorem vL_snoc (l : List UInt8) (x : UInt8) : ∀ a, vL (l ++ [x]) a = 10 * vL l a + (x.toNat - 48) := by
  induction l with
  | nil => intro a; rfl
  | cons y l ih => intro a; exact ih _
def digL (l : List UInt8) : Prop := ∀ x ∈ l, 48 ≤ x.toNat ∧ x.toNat ≤ 57
theorem size_list (s : ByteArray) : s.data.toList.length = s.size := by simp
theorem get_list (s : ByteArray) (k : Nat) (h : k < s.size) : s.data.toList[k]'(by rw [size_list]; exact h) = s[k] := by
  simp only [Array.getElem_toList]
  rfl
theorem valS_list (s : ByteArray) : ∀ k, k ≤ s.size → valS s k = vL (s.data.toList.take k) 0
  | 0, _ => rfl
  | k + 1, h => by
    have hk : k < s.size := by omega
    rw [valS, dif_pos hk, valS_list s k (by omega), List.take_succ_eq_append_getElem (by rw [size_list]; exact hk), vL_snoc, get_list s k hk]
theorem valS_all (s : ByteArray) : valS s s.size = vL s.data.toList 0 := by
  rw [valS_list s s.size (Nat.le_refl _), List.take_of_length_le (by rw [size_list]; exact Nat.le_refl _)]
theorem digL_of (s : ByteArray) (h : digS s) : digL s.data.toList := by
  intro x hx
  obtain ⟨k, hk, rfl⟩ := List.getElem_of_mem hx
  have hk' : k < s.size := by rw [← size_list]; exact hk
  have h2 := h k hk'
  rw [← get_list s k hk'] at h2
  omega
theorem vL_lo (l : List UInt8) : ∀ a, a * 10 ^ l.length ≤ vL l a := by
  induction l with
  | nil => intro a; simp [vL]
  | cons x l ih =>
    intro a
    refine Nat.le_trans ?_ (ih _)
    rw [List.length_cons, Nat.pow_succ, Nat.mul_comm (10 ^ l.length) 10, ← Nat.mul_assoc]
    exact Nat.mul_le_mul_right _ (by omega)
theorem vL_hi (l : List UInt8) : ∀ a, digL l → vL l a < (a + 1) * 10 ^ l.length := by
  induction l with
  | nil => intro a _; simp [vL]
  | cons x l ih =>
    intro a h
    have hx := h x (by simp)
    refine Nat.lt_of_lt_of_le (ih _ fun y hy => h y (by simp [hy])) ?_
    rw [List.length_cons, Nat.pow_succ, Nat.mul_comm (10 ^ l.length) 10, ← Nat.mul_assoc]
    exact Nat.mul_le_mul_right _ (by omega)
theorem less_len (l m : List UInt8) (hl : digL l) (h : l.length < m.length) (hz : ∀ y r, m = y :: r → 49 ≤ y.toNat) : vL l 0 < vL m 0 := by
  obtain _ | ⟨y, r⟩ := m
  · simp at h
  have hy := hz y r rfl
  refine Nat.lt_of_lt_of_le (vL_hi l 0 hl) ?_
  have h1 : 10 ^ l.length ≤ 10 ^ r.length := Nat.pow_le_pow_right (by omega) (by simp at h; omega)
  have h2 := vL_lo r (10 * 0 + (y.toNat - 48))
  have h3 : 1 * 10 ^ r.length ≤ (10 * 0 + (y.toNat - 48)) * 10 ^ r.length := Nat.mul_le_mul_right _ (by omega)
  show (0 + 1) * 10 ^ l.length ≤ vL r (10 * 0 + (y.toNat - 48))
  omega
theorem less_lex : ∀ (l m : List UInt8) (a b : Nat), digL l → digL m → l.length = m.length → (vL l a < vL m b ↔ a < b ∨ (a = b ∧ Op.bytesLess l m = true))
  | [], [], a, b, _, _, _ => by simp [vL, Op.bytesLess]
  | [], _ :: _, _, _, _, _, h => by simp at h
  | _ :: _, [], _, _, _, _, h => by simp at h
  | x :: l, y :: m, a, b, hl, hm, h => by
    have hx := hl x (by simp)
    have hy := hm y (by simp)
    have ih := less_lex l m (10 * a + (x.toNat - 48)) (10 * b + (y.toNat - 48)) (fun z hz => hl z (by simp [hz])) (fun z hz => hm z (by simp [hz])) (by simpa using h)
    show vL l _ < vL m _ ↔ _
    rw [ih]
    simp only [Op.bytesLess, Bool.or_eq_true, Bool.and_eq_true, decide_eq_true_eq, beq_iff_eq, UInt8.lt_iff_toNat_lt, ← UInt8.toNat_inj]
    generalize Op.bytesLess l m = B
    cases B <;> simp <;> omega

theorem head_list (s : ByteArray) (hd : digS s) (hz : ¬ zeroS s) (h1 : 1 < s.size) : ∀ y r, s.data.toList = y :: r → 49 ≤ y.toNat := by
  intro y r e
  have h0 : 0 < s.size := by omega
  have h2 := get_list s 0 h0
  simp only [e, List.getElem_cons_zero] at h2
  have h3 := (hd 0 h0).1
  have h4 : ¬ (s[0].toNat : Int) = 48 := fun h => hz ⟨h0, h, h1⟩
  rw [h2]
  omega

theorem order_same (s t : ByteArray) (hs : digS s) (ht : digS t) (h : s.size = t.size) : decide (valS s s.size < valS t t.size) = Op.bytesLess s.toList t.toList := by
  rw [valS_all, valS_all, ByteArray.toList_eq, ByteArray.toList_eq, Bool.eq_iff_iff, decide_eq_true_eq, less_lex _ _ 0 0 (digL_of s hs) (digL_of t ht) (by rw [size_list, size_list]; exact h)]
  simp
theorem order_less (s t : ByteArray) (hs : digS s) (ht : digS t) (h0 : 0 < s.size) (hz : ¬ zeroS t) (h : s.size < t.size) : valS s s.size < valS t t.size := by
  rw [valS_all, valS_all]
  exact less_len _ _ (digL_of s hs) (by rw [size_list, size_list]; exact h) (head_list t ht hz (by omega))

end Go.Proofs.YtogkmlodcdgegaaDoor
