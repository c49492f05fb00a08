/-
  How a slice of items that came in is opened.
-/
import Derived.Test.YtgdbdhfomlkpdaaFoA
import Derived.Test.YtgdbdhfomlkpdaaOpenId
import Derived.Test.YtgdbdhfomlkpdaaOpen2
import Derived.Lib.SmallJoins
namespace Go.Proofs.Ytgdbdhfomlkpdaa
open Go.ChangeShapes Go.WideShapes Go.ChangeAt Go.RowKit Go.Deep

theorem cells_it : Try.prog.cellsOf 33 = 35 := by kernel_rfl
theorem cells_i64 : Try.prog.cellsOf 2 = 1 := by kernel_rfl
theorem cells_int : Try.prog.cellsOf 3 = 1 := by kernel_rfl
theorem cells_str : Try.prog.cellsOf 9 = 1 := by kernel_rfl
theorem it_of {H : Type} {enc : TypeId × Value → H} {w : World} {fuel : Nat} {ls : List Value} {x : DataW H × List MemPlace} (hls : ls.length = 35)
    (h : DataW.trod enc Try.prog w 0 (fun _ => true) true fuel 33 ls = some x) : ∃ y : It, ItOk y ∧ ls = itL y := by
  obtain ⟨y0, y1, y2, y3, n, _, hl, h0, h1, h2, h3⟩ := Go.Joins.trod_struct4 Try.underlying33 h
  rw [cells_it] at hl
  simp only [cells_id, cells_i64, cells_int, cells_str, List.drop_zero] at h0 h1 h2 h3
  obtain ⟨s, e0, _, hs⟩ := DataW.trod_string Try.underlying9 h0
  obtain ⟨k, e1, _, hk⟩ := DataW.trod_int Try.underlying3 h1
  obtain ⟨R, hR, e2⟩ := id_cells (ls := (ls.drop 2).take 32) (by rw [List.length_take, List.length_drop]; omega) h2
  obtain ⟨z, e3, _, hz⟩ := DataW.trod_int Try.underlying2 h3
  have hk' := wfb_i64 hk
  have hz' := wfb_i64 hz
  refine ⟨⟨s, k, R, z⟩, ⟨hR, hk'.1, hk'.2, hz'.1, hz'.2, hs⟩, ?_⟩
  have e : ls = ls.take 1 ++ ((ls.drop 1).take 1 ++ ((ls.drop 2).take 32 ++ (ls.drop 34).take 1)) := by
    have a1 : (ls.drop 34).take 1 = ls.drop 34 := List.take_of_length_le (by rw [List.length_drop]; omega)
    have a2 : (ls.drop 2).take 32 ++ ls.drop 34 = ls.drop 2 := by
      have := List.take_append_drop 32 (ls.drop 2)
      rwa [List.drop_drop] at this
    have a3 : (ls.drop 1).take 1 ++ ls.drop 2 = ls.drop 1 := by
      have := List.take_append_drop 1 (ls.drop 1)
      rwa [List.drop_drop] at this
    rw [a1, a2, a3, List.take_append_drop]
  have f0 : ls.take 1 = [.string s] := e0
  have f1 : (ls.drop 1).take 1 = [.int .i64 k] := e1
  have f3 : (ls.drop 34).take 1 = [.int .i64 z] := e3
  rw [e, f0, f1, e2, f3]
  rfl

/-- A slice of items that came in. -/
theorem rd_items {H : Type} {enc : TypeId × Value → H} {w : World} {a : Option Addr} {len cap : Nat} {d : DataW H} {p : List MemPlace}
    (h : DataW.Trod enc Try.prog w 0 (fun _ => true) true 22 (.slice a len cap) d p) : ∃ l : List It, Its w a len cap l := by
  obtain ⟨fuel, hf⟩ := h
  rcases open_slice Try.underlying22 hf with ⟨hcs, _⟩ | ⟨x, l, c, m, n, D, Pl, hcs, _, hl, hm, hmm, _, hel⟩
  · simp [Value.cells] at hcs
    obtain ⟨rfl, rfl, rfl⟩ := hcs
    exact ⟨[], Its.nil_ w⟩
  · simp [Value.cells] at hcs
    obtain ⟨rfl, rfl, rfl⟩ := hcs
    obtain ⟨ll, hll, hq⟩ := choose_list (Q := fun i (y : It) => ItOk y ∧ ∀ j v, (itL y)[j]? = some v → w.cell? (at_ (some x) (i * 35 + j)) = some v) len fun i hi => by
      obtain ⟨cs', hc, htr⟩ := hel i (by simp at hmm; omega)
      rw [cells_it] at hc
      obtain ⟨_, hl1, hat⟩ := World.cells?_some hc
      obtain ⟨y, hy, rfl⟩ := it_of (ls := cs') hl1 htr
      refine ⟨y, hy, fun j v hv => ?_⟩
      have hj : j < 35 := by rw [← itL_len hy]; exact (List.getElem?_eq_some_iff.1 hv).1
      have h0 := hat j hj
      rw [at_some, ← add_of_add, h0, hv]
    have hok : ∀ y ∈ ll, ItOk y := fun y hy => by
      obtain ⟨i, hi⟩ := List.getElem?_of_mem hy
      exact (hq i y hi).1
    refine ⟨ll, ⟨⟨by rw [its_len hok, hll], hl, hm, (fun h => by cases h), fun j v hv => ?_⟩, hok⟩⟩
    have hjl : j < ll.length * 35 := by rw [← its_len hok]; exact (List.getElem?_eq_some_iff.1 hv).1
    have hi : j / 35 < ll.length := by omega
    have hx : ll[j / 35]? = some ll[j / 35] := List.getElem?_eq_getElem hi
    have e : j = j / 35 * 35 + j % 35 := by omega
    rw [e, its_at hok hx (by omega)] at hv
    rw [e]
    exact (hq _ _ hx).2 _ _ hv

end Go.Proofs.Ytgdbdhfomlkpdaa
