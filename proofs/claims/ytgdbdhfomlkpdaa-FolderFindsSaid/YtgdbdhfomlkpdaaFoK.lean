/-
  Package folder: Take: plain words; a row of items of the call's own.
-/
import Derived.Test.YtgdbdhfomlkpdaaFoI
import Derived.Great.BuildSlice
namespace Go.Proofs.Ytgdbdhfomlkpdaa
open Go.RowKit

/-- n items more, behind acc. -/
def goI : Nat → List It → List UInt8 → Option (List It × List UInt8)
  | 0, acc, r => some (acc, r)
  | n + 1, acc, r => match itP r with
    | none => none
    | some (x, q) => goI n (acc ++ [x]) q
theorem goI_none {n : Nat} {acc : List It} {r : List UInt8} (h : itP r = none) : goI (n + 1) acc r = none := by
  simp only [goI, h]
theorem goI_some {n : Nat} {acc : List It} {r q : List UInt8} {x : It} (h : itP r = some (x, q)) : goI (n + 1) acc r = goI n (acc ++ [x]) q := by
  simp only [goI, h]
/-- What Take answers. -/
def takeF (l : List UInt8) : List It × Int :=
  if 4000 < l.length ∨ l.take 2 ≠ [68, 49] then ([], 4)
  else if (tcR (l.drop 2)).2.2 ≠ 0 ∨ 64 < (tcR (l.drop 2)).1 then ([], 4)
  else match goI (tcR (l.drop 2)).1 [] ((l.drop 2).drop (tcR (l.drop 2)).2.1) with
    | none => ([], 4)
    | some (its, r) => if r ≠ [] ∨ mayL its = false then ([], 4) else (its, 0)
theorem takeF_no1 {l : List UInt8} (h : 4000 < l.length ∨ l.take 2 ≠ [68, 49]) : takeF l = ([], 4) := if_pos h
theorem takeF_no2 {l : List UInt8} {N k : Nat} {e : Int} (h : tcR (l.drop 2) = (N, k, e)) (he : e ≠ 0 ∨ 64 < N) : takeF l = ([], 4) := by
  unfold takeF
  by_cases h1 : 4000 < l.length ∨ l.take 2 ≠ [68, 49]
  · rw [if_pos h1]
  · rw [if_neg h1, h, if_pos he]
theorem takeF_go {l : List UInt8} {N k : Nat} (h1 : ¬ (4000 < l.length ∨ l.take 2 ≠ [68, 49])) (h : tcR (l.drop 2) = (N, k, 0)) (h64 : N ≤ 64) :
    takeF l = match goI N [] ((l.drop 2).drop k) with
    | none => ([], 4)
    | some (its, r) => if r ≠ [] ∨ mayL its = false then ([], 4) else (its, 0) := by
  unfold takeF
  rw [if_neg h1, h, if_neg (by simp; omega)]

/-- A row of items of the call's own. -/
structure OwnI (w : World) (base : Nat) (A : Option Addr) (n c : Nat) (l : List It) : Prop where
  own : Own w base 33 35 A n c (itsL l)
  ok : ∀ x ∈ l, ItOk x
section
variable {w w' : World} {base n c : Nat} {A : Option Addr} {l : List It}
theorem OwnI.its (h : OwnI w base A n c l) : Its w A n c l := ⟨h.own.rd, h.ok⟩
theorem OwnI.len (h : OwnI w base A n c l) : l.length = n := h.its.len
theorem OwnI.below (h : OwnI w base A n c l) (hb : Below w.heap.size w w') : OwnI w' base A n c l := ⟨h.own.below hb, h.ok⟩
theorem OwnI.nil_ (w : World) (base : Nat) : OwnI w base none 0 0 [] := ⟨Own.nil_ _ _ _ _, fun x hx => by simp at hx⟩
theorem OwnI.mono (h : OwnI w base A n c l) {b' : Nat} (hb : b' ≤ base) : OwnI w b' A n c l := ⟨h.own.mono hb, h.ok⟩
end

theorem list32 {R : List UInt8} (h : R.length = 32) : ∃ b0 b1 b2 b3 b4 b5 b6 b7 c0 c1 c2 c3 c4 c5 c6 c7 d0 d1 d2 d3 d4 d5 d6 d7 e0 e1 e2 e3 e4 e5 e6 e7, R = [b0, b1, b2, b3, b4, b5, b6, b7, c0, c1, c2, c3, c4, c5, c6, c7, d0, d1, d2, d3, d4, d5, d6, d7, e0, e1, e2, e3, e4, e5, e6, e7] := by
  match R, h with
  | [b0, b1, b2, b3, b4, b5, b6, b7, c0, c1, c2, c3, c4, c5, c6, c7, d0, d1, d2, d3, d4, d5, d6, d7, e0, e1, e2, e3, e4, e5, e6, e7], _ =>
    exact ⟨b0, b1, b2, b3, b4, b5, b6, b7, c0, c1, c2, c3, c4, c5, c6, c7, d0, d1, d2, d3, d4, d5, d6, d7, e0, e1, e2, e3, e4, e5, e6, e7, rfl⟩
theorem fill_it32 (nm : ByteArray) (kd sz : Int) (b0 b1 b2 b3 b4 b5 b6 b7 c0 c1 c2 c3 c4 c5 c6 c7 d0 d1 d2 d3 d4 d5 d6 d7 e0 e1 e2 e3 e4 e5 e6 e7 : UInt8) : Instr.fill (fun i => some (i * 35, 35)) ((Array.range (1 * 35)).map ((Value.agg (itA itZ)).cells[· % (Value.agg (itA itZ)).cells.size]!)) [(0, .agg (itA ⟨nm, kd, [b0, b1, b2, b3, b4, b5, b6, b7, c0, c1, c2, c3, c4, c5, c6, c7, d0, d1, d2, d3, d4, d5, d6, d7, e0, e1, e2, e3, e4, e5, e6, e7], sz⟩))] = some (itA ⟨nm, kd, [b0, b1, b2, b3, b4, b5, b6, b7, c0, c1, c2, c3, c4, c5, c6, c7, d0, d1, d2, d3, d4, d5, d6, d7, e0, e1, e2, e3, e4, e5, e6, e7], sz⟩) := by kernel_rfl
theorem fill_it {x : It} (h : ItOk x) : Instr.fill (fun i => some (i * 35, 35)) ((Array.range (1 * 35)).map ((Value.agg (itA itZ)).cells[· % (Value.agg (itA itZ)).cells.size]!)) [(0, .agg (itA x))] = some (itA x) := by
  obtain ⟨nm, kd, id, sz⟩ := x
  have hl := h.len
  dsimp only at hl
  obtain ⟨b0, b1, b2, b3, b4, b5, b6, b7, c0, c1, c2, c3, c4, c5, c6, c7, d0, d1, d2, d3, d4, d5, d6, d7, e0, e1, e2, e3, e4, e5, e6, e7, rfl⟩ := list32 hl
  exact fill_it32 nm kd sz b0 b1 b2 b3 b4 b5 b6 b7 c0 c1 c2 c3 c4 c5 c6 c7 d0 d1 d2 d3 d4 d5 d6 d7 e0 e1 e2 e3 e4 e5 e6 e7
section
variable {ops : Array Oper} {rest : List Oper} {o : Oper} {a : Act} {Q : Exit → Act → World → Prop} {w : World}
/-- A slice of one item. -/
theorem wpList_slice_it (hgd : o.guard = none) (p : Operand) (ho : o.op = .buildSlice 22 1 #[(0, p)]) {x : It} (hp : a.eval p = .agg (itA x)) (hx : ItOk x)
    (k : ∀ w', Its w' (some ⟨w.heap.size, 0, none⟩) 1 1 [x] → Below w.heap.size w w' → wpList Try.prog ops Q rest (a.put o.dst (.slice (some ⟨w.heap.size, 0, none⟩) 1 1)) w') : wpList Try.prog ops Q (o :: rest) a w := by
  obtain ⟨ie, hie, hz, hs, _⟩ := ei.info
  refine wpList_buildSlice hgd 22 33 1 _ ho (itA x) ie (.agg (itA itZ)) Try.underlying22 hie hz (by rw [hs]; decide) (by rw [hs]; decide) ?_ (k _ ⟨?_, ?_⟩ ((Below.refl _ _).alloc (Nat.le_refl _) _))
  · rw [hs]
    have e : (#[(0, p)].map fun (i, x) => (i, a.eval x)).toList = [(0, Value.agg (itA x))] := by
      rw [List.map_toArray]
      simp [hp]
    rw [e]
    exact fill_it hx
  · have e : itsL [x] = itL x := by simp [itsL]
    rw [e]
    refine ⟨by rw [itL_len hx], Nat.le_refl _, by decide, (fun e => by cases e), fun j u hu => ?_⟩
    rw [at_some, add0]
    exact cell_of (heap_new _ _) (by simpa [itA] using hu)
  · intro y hy
    obtain rfl : y = x := by simpa using hy
    exact hx
end

end Go.Proofs.Ytgdbdhfomlkpdaa
