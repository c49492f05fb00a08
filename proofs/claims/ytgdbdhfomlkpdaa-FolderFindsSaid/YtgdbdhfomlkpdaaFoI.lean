/-
  Package folder: an item read: plain words; stores into an item's block.
-/
import Derived.Test.YtgdbdhfomlkpdaaFoF
import Derived.Test.YtgdbdhfomlkpdaaMixD
namespace Go.Proofs.Ytgdbdhfomlkpdaa
open Go.RowKit

/-- The item at the beginning, and what is behind it. -/
def itP : List UInt8 → Option (It × List UInt8)
  | [] => none
  | k :: r =>
    if (ttR r).2.2 ≠ 0 then none
    else if r.length - (ttR r).2.1 < 32 then none
    else if (tcR (r.drop ((ttR r).2.1 + 32))).2.2 ≠ 0 ∨ 9223372036854775807 < (tcR (r.drop ((ttR r).2.1 + 32))).1 then none
    else some (⟨⟨(ttR r).1.toArray⟩, k.toNat, (r.drop (ttR r).2.1).take 32, (tcR (r.drop ((ttR r).2.1 + 32))).1⟩, (r.drop ((ttR r).2.1 + 32)).drop (tcR (r.drop ((ttR r).2.1 + 32))).2.1)
theorem tt_le (l : List UInt8) : (ttR l).2.1 ≤ l.length ∧ (ttR l).1.length ≤ l.length := by
  have hb := (takeC_bounds l 0 0 (by omega) (by omega)).2.1
  have e : takeC l 0 0 = tcR l := rfl
  rw [e] at hb
  unfold ttR
  split
  · simp
  · split
    · simp
    · split
      · simp
      · refine ⟨by dsimp only; omega, ?_⟩
        dsimp only
        rw [List.length_take, List.length_drop]
        omega
theorem tc_le (l : List UInt8) : (tcR l).2.1 ≤ l.length ∧ (tcR l).1 ≤ 18446744073709551615 ∧ 0 ≤ (tcR l).2.2 ∧ (tcR l).2.2 ≤ 4 := by
  obtain ⟨b1, b2, _, _, b5, b6⟩ := takeC_bounds l 0 0 (by decide) (by omega)
  have e : takeC l 0 0 = tcR l := rfl
  rw [e] at b1 b2 b5 b6
  exact ⟨by omega, b1, b5, b6⟩

/-! ### Stores into a block that holds an item -/
theorem heap_setCell {w : World} {g i : Nat} {cs : Array Value} {t : TypeId} {fr : Nat × Nat} (v : Value) (h : w.heap[g]? = some (.cells cs t fr)) : (w.setCell ⟨g, i, none⟩ v).heap[g]? = some (.cells (cs.setIfInBounds i v) t fr) := by
  simp [World.setCell, Array.getElem?_modify, h]
theorem heap_setCell_ne {w : World} {g i k : Nat} (v : Value) (h : g ≠ k) : (w.setCell ⟨g, i, none⟩ v).heap[k]? = w.heap[k]? := by
  simp [World.setCell, Array.getElem?_modify, h]
section
variable {w w' : World} {g : Nat} {x : It}
theorem ItB.setName (h : ItB w g x) (s : ByteArray) (hs : s.size ≤ maxLen) : ItB (w.setCell ⟨g, 0, none⟩ (.string s)) g { x with nm := s } :=
  ⟨⟨h.ok.len, h.ok.k0, h.ok.k1, h.ok.s0, h.ok.s1, hs⟩, by rw [heap_setCell _ h.obj]; rfl⟩
theorem ItB.setKind (h : ItB w g x) (k : Int) (h0 : -9223372036854775808 ≤ k) (h1 : k ≤ 9223372036854775807) : ItB (w.setCell ⟨g, 1, none⟩ (.int .i64 k)) g { x with kd := k } :=
  ⟨⟨h.ok.len, h0, h1, h.ok.s0, h.ok.s1, h.ok.nm⟩, by rw [heap_setCell _ h.obj]; rfl⟩
theorem ItB.setSize (h : ItB w g x) (k : Int) (h0 : -9223372036854775808 ≤ k) (h1 : k ≤ 9223372036854775807) : ItB (w.setCell ⟨g, 34, none⟩ (.int .i64 k)) g { x with sz := k } := by
  refine ⟨⟨h.ok.len, h.ok.k0, h.ok.k1, h0, h1, h.ok.nm⟩, ?_⟩
  rw [heap_setCell _ h.obj]
  congr 2
  have hl := h.ok.len
  simp only [itA, itL, List.setIfInBounds_toArray, List.set_cons_succ]
  congr 3
  rw [List.set_append_right _ _ (by simp [hl])]
  simp [hl]
theorem ItB.free (h : ItB w g x) (i : Nat) : w.frozen? ⟨g, i, none⟩ = false := frozen_of h.obj
/-- Cells stored behind one another into a block. -/
theorem run_storeVar_part {P : Program} {ty t : TypeId} {o : Nat} {cs : Array Value} {vs : List Value} (hg : w.heap[g]? = some (.cells cs t (0, 0))) (hi : (P.info? ty).map (·.size) = some vs.length) (hs : o + vs.length ≤ cs.size) (h1 : ∀ v ∈ vs, v.oneCell' = true) :
    (storeVar ty ⟨g, o, none⟩ (.agg vs.toArray)).run P w = .ok () (w.setRow g (cs.toList.take o ++ vs ++ cs.toList.drop (o + vs.length)).toArray) := by
  have h := run_storeCells_fr P g o t (0, 0) vs 0 cs w hg (by omega) (fun j _ _ => by omega) h1
  simp only [Nat.add_zero] at h
  simp only [storeVar, Sem.run_bind, sizeOf_run hi, Result.andThen_ok, Value.cells, List.size_toArray, ne_eq, not_true_eq_false, if_false, h]
theorem ItB.setId (h : ItB w g x) {R : List UInt8} (hR : R.length = 32) : ItB (w.setRow g ((itA x).toList.take 2 ++ R.map b8 ++ (itA x).toList.drop (2 + (R.map b8).length)).toArray) g { x with id := R } := by
  refine ⟨⟨hR, h.ok.k0, h.ok.k1, h.ok.s0, h.ok.s1, h.ok.nm⟩, ?_⟩
  rw [setRow_heap w g _ _ _ _ h.obj]
  congr 2
  have hl := h.ok.len
  simp only [itA, itL, List.length_map, hR]
  congr 1
  have e : (Value.string x.nm :: Value.int .i64 x.kd :: (x.id.map b8 ++ [Value.int .i64 x.sz])).drop (2 + 32) = [Value.int .i64 x.sz] := by
    rw [show 2 + 32 = 32 + 1 + 1 from rfl, List.drop_succ_cons, List.drop_succ_cons]
    have : (x.id.map b8).length = 32 := by simp [hl]
    rw [← this]
    exact List.drop_left
  rw [e]
  rfl
end
section
variable {ops : Array Oper} {rest : List Oper} {o : Oper} {a : Act} {Q : Exit → Act → World → Prop} {w : World}
/-- The item's name of 32 bytes, stored. -/
theorem wpList_store_itid (hw : Region.wanted o (yielded ops a.tmps) = true) (u v : Operand) (ho : o.op = .store 31 u v) {g : Nat} (hx : a.eval u = .pointer (some ⟨g, 2, none⟩)) {R : List UInt8} (hy : a.eval v = .agg (idA R)) (hR : R.length = 32) {x : It} (h : ItB w g x)
    (k : ∀ w', ItB w' g { x with id := R } → w.grownBy w' (some g) → w'.heap.size = w.heap.size → wpList Try.prog ops Q rest (a.put o.dst undef) w') : wpList Try.prog ops Q (o :: rest) a w := by
  refine wpList_taken hw fun K hK => ?_
  have hrun := run_storeVar_part (P := Try.prog) (ty := 31) (o := 2) (vs := R.map b8) h.obj (by rw [List.length_map, hR]; exact size_id0) (by rw [itA_size h.ok]; simp [hR]) (b8_one R)
  have hrun' : (storeVar 31 ⟨g, 2, none⟩ (.agg (idA R))).run Try.prog w = _ := hrun
  unfold Oper.wp execOp
  simp only [ho, hx, hy, Instr.storeAt, Instr.sureAddr, Sem.run_bind, Sem.run_pure, Result.andThen_ok, hrun']
  exact hK _ _ (k _ (h.setId hR) ⟨rfl, rfl, rfl, by simp, fun q _ hq => setRow_other w g q _ (fun e => hq (by rw [e]))⟩ (by simp))
end
/-- The worlds in which all blocks but g are as they were. -/
structure KeepBut (w : World) (g : Nat) where
  at' : World
  same : ∀ k, k < w.heap.size → k ≠ g → at'.heap[k]? = w.heap[k]?
instance (w : World) (g : Nat) : Nonempty (KeepBut w g) := ⟨⟨w, fun _ _ _ => rfl⟩⟩
theorem Rd.but {w : World} {g size n c : Nat} {A : Option Addr} {xs : List Value} (h : Rd w size A n c xs) (hne : ∀ q, blk A = some q → q ≠ g) (b : KeepBut w g) : Rd b.at' size A n c xs := h.keep fun q hq hl => b.same q hl (hne q hq)

end Go.Proofs.Ytgdbdhfomlkpdaa
