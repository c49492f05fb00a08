/-
  How a slice of bools that came in is opened.
-/
import Derived.Test.YtpidakfpoihdkaaDoorBase
import Derived.Test.YtpidakfpoihdkaaDoorOpen2
import Derived.Lib.SmallJoins
import Derived.Deep.Strs
namespace Go.Proofs.YtpidakfpoihdkaaDoor
open Go.ChangeShapes Go.WideShapes Go.ChangeAt Go.RowKit Go.Deep

theorem cells_bl : Tryd.prog.cellsOf 4 = 1 := by kernel_rfl
theorem rd_bools {H : Type} {enc : TypeId × Value → H} {w : World} {a : Option Addr} {len cap : Nat} {d : DataW H} {p : List MemPlace}
    (h : DataW.Trod enc Tryd.prog w 0 (fun _ => true) true 31 (.slice a len cap) d p) : ∃ l : List Bool, Rd w 1 a len cap (l.map Value.bool) := by
  obtain ⟨fuel, hf⟩ := h
  rcases open_slice Tryd.underlying31 hf with ⟨hcs, _⟩ | ⟨x, l, c, m, n, D, Pl, hcs, _, hl, hm, hmm, _, hel⟩
  · simp [Value.cells] at hcs
    obtain ⟨rfl, rfl, rfl⟩ := hcs
    exact ⟨[], Rd.nil_ w 1⟩
  · simp [Value.cells] at hcs
    obtain ⟨rfl, rfl, rfl⟩ := hcs
    obtain ⟨ll, hll, hq⟩ := choose_list (Q := fun i (y : Bool) => w.cell? (at_ (some x) i) = some (.bool y)) len fun i hi => by
      obtain ⟨cs', hc, htr⟩ := hel i (by simp at hmm; omega)
      rw [cells_bl] at hc
      obtain ⟨_, hl1, hat⟩ := World.cells?_some hc
      obtain ⟨b, e2, _⟩ := DataW.trod_bool Tryd.underlying4 htr
      refine ⟨b, ?_⟩
      have h0 := hat 0 (by omega)
      rw [e2, Nat.mul_one, add_of_add, Nat.add_zero] at h0
      rw [at_some]
      exact h0
    refine ⟨ll, ⟨by rw [List.length_map, hll, Nat.mul_one], hl, hm, (fun h => by cases h), fun j v hv => ?_⟩⟩
    rw [List.getElem?_map] at hv
    cases hy : ll[j]? with
    | none => rw [hy] at hv; cases hv
    | some y =>
      rw [hy] at hv
      obtain rfl := Option.some.inj hv
      exact hq j y hy

end Go.Proofs.YtpidakfpoihdkaaDoor
