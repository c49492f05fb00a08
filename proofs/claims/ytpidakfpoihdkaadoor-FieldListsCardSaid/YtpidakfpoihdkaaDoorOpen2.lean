/-
  How a slice of slices of bytes is opened.
-/
import Derived.Test.YtpidakfpoihdkaaDoorOpen
import Derived.Deep.Slices
namespace Go.Proofs.YtpidakfpoihdkaaDoor
open Go.ChangeShapes Go.WideShapes Go.ChangeAt Go.RowKit Go.Deep

structure Row where
  A : Option Addr
  n : Nat
  c : Nat
  l : List UInt8
def Row.val (r : Row) : Value := .slice r.A r.n r.c
/-- A slice that reads as these rows, each of which reads as its bytes. -/
structure Rows2 (w : World) (A : Option Addr) (n c : Nat) (ll : List Row) : Prop where
  rd : Rd w 1 A n c (ll.map Row.val)
  each : ∀ r ∈ ll, Rd w 1 r.A r.n r.c (r.l.map b8)

theorem choose_list {α : Type} {Q : Nat → α → Prop} : ∀ (n : Nat), (∀ i, i < n → ∃ r, Q i r) → ∃ ll : List α, ll.length = n ∧ ∀ (i : Nat) r, ll[i]? = some r → Q i r
  | 0, _ => ⟨[], rfl, fun i r h => by simp at h⟩
  | n + 1, h => by
    obtain ⟨ll, hl, hq⟩ := choose_list n fun i hi => h i (by omega)
    obtain ⟨r, hr⟩ := h n (by omega)
    refine ⟨ll ++ [r], by simp [hl], fun i r' hi => ?_⟩
    by_cases hin : i < n
    · rw [List.getElem?_append_left (by omega)] at hi
      exact hq i r' hi
    · rw [List.getElem?_append_right (by omega)] at hi
      by_cases hi0 : i - ll.length = 0
      · have e : i = n := by omega
        subst e
        rw [hi0] at hi
        simp at hi
        subst hi
        exact hr
      · have : 0 < i - ll.length := by omega
        rw [List.getElem?_eq_none (by simp; omega)] at hi
        cases hi

theorem row_of {H : Type} {enc : TypeId × Value → H} {w : World} {e u : TypeId} {fuel : Nat} {cs : List Value} {x : DataW H × List MemPlace}
    (he : Tryd.prog.underlying e = some (.slice u)) (hu : Tryd.prog.underlying u = some (.int .u8)) (hc2 : Tryd.prog.cellsOf u = 1) (h : DataW.trod enc Tryd.prog w 0 (fun _ => true) true fuel e cs = some x) :
    ∃ r : Row, cs = [r.val] ∧ Rd w 1 r.A r.n r.c (r.l.map b8) := by
  rcases open_ints he hu hc2 h with ⟨hcs, _⟩ | ⟨a, l, c, zs, hcs, _, hl, hm, hz, _, hcell, hwz⟩
  · exact ⟨⟨none, 0, 0, []⟩, hcs, Rd.nil_ w 1⟩
  · obtain ⟨bs, hb⟩ := rd_bytes (w := w) (a := some a) (len := l) (cap := c) (zs := zs) (.inr ⟨a, rfl, hl, hm, by simpa using hz, hcell, hwz⟩)
    exact ⟨⟨some a, l, c, bs⟩, hcs, hb⟩

/-- A slice of slices of bytes that came in. -/
theorem rd_rows {H : Type} {enc : TypeId × Value → H} {w : World} {t e u : TypeId} {a : Option Addr} {len cap : Nat} {d : DataW H} {p : List MemPlace}
    (ht : Tryd.prog.underlying t = some (.slice e)) (he : Tryd.prog.underlying e = some (.slice u)) (hu : Tryd.prog.underlying u = some (.int .u8)) (hc1 : Tryd.prog.cellsOf e = 1) (hc2 : Tryd.prog.cellsOf u = 1)
    (h : DataW.Trod enc Tryd.prog w 0 (fun _ => true) true t (.slice a len cap) d p) : ∃ ll : List Row, Rows2 w a len cap ll := by
  obtain ⟨fuel, hf⟩ := h
  rcases open_slice ht hf with ⟨hcs, _⟩ | ⟨x, l, c, m, n, D, Pl, hcs, _, hl, hm, hmm, _, hel⟩
  · simp [Value.cells] at hcs
    obtain ⟨rfl, rfl, rfl⟩ := hcs
    exact ⟨[], Rd.nil_ w 1, fun r hr => by cases hr⟩
  · simp [Value.cells] at hcs
    obtain ⟨rfl, rfl, rfl⟩ := hcs
    obtain ⟨ll, hll, hq⟩ := choose_list (Q := fun i (r : Row) => w.cell? (at_ (some x) i) = some r.val ∧ Rd w 1 r.A r.n r.c (r.l.map b8)) len fun i hi => by
      obtain ⟨cs', hc, htr⟩ := hel i (by simp at hmm; omega)
      obtain ⟨r, rfl, hr⟩ := row_of he hu hc2 htr
      rw [hc1] at hc
      obtain ⟨_, _, hat⟩ := World.cells?_some hc
      have h0 := hat 0 (by omega)
      refine ⟨r, ?_, hr⟩
      rw [at_some]
      simpa [Addr.add] using h0
    refine ⟨ll, ⟨by simp [hll], hl, hm, (fun h => by cases h), fun j v hv => ?_⟩, fun r hr => ?_⟩
    · rw [List.getElem?_map] at hv
      cases hj : ll[j]? with
      | none => simp [hj] at hv
      | some r =>
        simp [hj] at hv
        subst hv
        exact (hq j r hj).1
    · obtain ⟨i, hi⟩ := List.getElem?_of_mem hr
      exact (hq i r hi).2

end Go.Proofs.YtpidakfpoihdkaaDoor
