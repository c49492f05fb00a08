/-
  The document's answer to chunk: a sized body; what all pieces hold together.
-/
import Derived.Test.YthijpbakhnakeaaChK
import Derived.Test.YthijpbakhnakeaaChL
import Derived.Test.YthijpbakhnakeaaRowsL
namespace Go.Proofs.Ythijpbakhnakeaa
open Go.RowKit

theorem told_stN (k : Nat) (l : List UInt8) : toldP (feedP (stN k) l) = if k ≤ l.length then ((k : Int), l.take k, 0) else (-1, l, 0) := by
  unfold stN
  by_cases h : k = 0
  · subst h
    rw [if_pos rfl, feedP_stop (.inl rfl), if_pos (Nat.zero_le _), told_done]
    rfl
  · rw [if_neg h, feed_plain l k [] (by omega)]
    by_cases h2 : l.length < k
    · rw [if_pos h2, if_neg (by omega)]
      simp [toldP]
    · rw [if_neg h2, if_pos (by omega), told_done, List.nil_append]

theorem RSized_any {w : World} (B : Option Addr) (m d : Nat) (l : List UInt8) (hl : Rd w 1 B m d (l.map b8)) (hm : m ≤ 1048576) (k : Nat) (hk : k ≤ 4096) :
    Calls Try.prog 22 #[.slice B m d, .int .i64 (k : Int)] w fun e w' => ∃ n', e = .returned (.agg #[.int .i64 (toldP (feedP (stN k) l)).1, .slice B n' d, .int .i64 (toldP (feedP (stN k) l)).2.2]) ∧ Rd w 1 B n' d ((toldP (feedP (stN k) l)).2.1.map b8) ∧ Below w.heap.size w w' := by
  have hlen := hl.lenb
  have hld := hl.le
  by_cases h : k ≤ m
  · have hT := Lib.hid ((told_stN k l).trans (if_pos (by omega)))
    have hr : Rd w 1 B k d ((l.take k).map b8) := by
      refine ⟨by simp; omega, by omega, hl.max, hl.nil, fun j u hu => hl.cell j u ?_⟩
      rw [List.map_take, List.getElem?_take] at hu
      split at hu
      · exact hu
      · cases hu
    have hsl := run_slice_h_rd (P := Try.prog) (A := B) (n := m) (c := d) eb (kh := .i64) k (H := (k : Int)) rfl (by omega)
    have h' : (k : Int) ≤ m := by omega
    go_enter Try.func22, Try.ntmps22
    go_wp2_with fail
    refine bodyPost_ret (results_cell_row rfl _ _ w.heap.size _ _ _ _ rfl (heap_new _ _) Try.underlying47 rfl (by kernel_rfl)) rfl ?_
    rw [hT.out]
    exact ⟨k, rfl, hr, (Below.refl _ _).alloc (Nat.le_refl _) _⟩
  · have hT := Lib.hid ((told_stN k l).trans (if_neg (by omega)))
    have h' : (m : Int) < k := by omega
    go_enter Try.func22, Try.ntmps22
    go_wp2_with fail
    refine bodyPost_ret (results_cell_row rfl _ _ w.heap.size _ _ _ _ rfl (heap_new _ _) Try.underlying47 rfl (by kernel_rfl)) rfl ?_
    rw [hT.out]
    exact ⟨m, rfl, hl, (Below.refl _ _).alloc (Nat.le_refl _) _⟩

/-- How many bytes all pieces have. -/
def tot (ll : List Row) : Nat := (ll.map Row.n).sum
theorem tot_le {most : Nat} : ∀ (ll : List Row) (acc : Nat), sumP most acc ll ≤ most → acc + tot ll ≤ most
  | [], acc, h => h
  | r :: ll, acc, h => by
    rw [sumP] at h
    split at h
    · omega
    · split at h
      · omega
      · have := tot_le ll _ h
        simp only [tot, List.map_cons, List.sum_cons] at this ⊢
        omega
theorem tot_drop {ll : List Row} {j : Nat} {r : Row} (h : ll[j]? = some r) : tot (ll.drop j) = r.n + tot (ll.drop (j + 1)) := by
  obtain ⟨hj, rfl⟩ := List.getElem?_eq_some_iff.1 h
  rw [List.drop_eq_getElem_cons hj]
  simp only [tot, List.map_cons, List.sum_cons]

end Go.Proofs.Ythijpbakhnakeaa
