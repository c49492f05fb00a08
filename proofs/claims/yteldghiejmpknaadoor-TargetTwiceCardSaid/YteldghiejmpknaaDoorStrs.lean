/-
  Strings and bytes: []byte(s) as a step of a walk; a block known whole, stored whole; operations that are guarded.
-/
import Derived.Test.YteldghiejmpknaaDoorBase
import Derived.Lib.ConvBytes
import Derived.Lib.SlBytesConst
import Derived.Laws.Rows
namespace Go.Proofs.YteldghiejmpknaaDoor
open Go.RowKit

theorem Rd.drop_ {w : World} {A : Option Addr} {n c : Nat} {l : List UInt8} (h : Rd w 1 A n c (l.map b8)) {k : Nat} (hk : k ≤ n) : Rd w 1 (cutA A c k 1) (n - k) (c - k) ((l.drop k).map b8) := by
  have h1 := h.cut (lo := k) (hi := n) hk (Nat.le_refl _)
  rw [Nat.mul_one, Nat.mul_one, ← List.map_drop, List.take_of_length_le (by have := h.lenb; simp; omega)] at h1
  exact h1
theorem Rd.take_ {w : World} {A : Option Addr} {n c : Nat} {l : List UInt8} (h : Rd w 1 A n c (l.map b8)) {k : Nat} (hk : k ≤ n) : Rd w 1 A k c ((l.take k).map b8) := by
  have := h.lenb
  refine ⟨by simp; omega, Nat.le_trans hk h.le, h.max, h.nil, fun j u hu => h.cell j u ?_⟩
  rw [List.map_take, List.getElem?_take] at hu
  split at hu
  · exact hu
  · cases hu

section
variable {P : Program} {w : World} {e src dst : TypeId}
variable {ops : Array Oper} {rest : List Oper} {o : Oper} {a : Act} {Q : Exit → Act → World → Prop}

theorem grownCap_ge' (w : World) (n : Nat) (e : TypeId) : n ≤ grownCap w n 0 e := grownCap_ge w n 0 e
theorem bytesWorld_below (w : World) (e : TypeId) (s : ByteArray) : Below w.heap.size w (Lib.bytesWorld w e s) :=
  ⟨rfl, rfl, rfl, by rw [Lib.bytesWorld_size]; omega, fun k hk => Lib.bytesWorld_at_old w e s k hk⟩
theorem bytesWorld_own (w : World) (e : TypeId) (s : ByteArray) (hs : s.size ≤ 1073741824) : Own (Lib.bytesWorld w e s) w.heap.size e 1 (some ⟨w.heap.size, 0, none⟩) s.size (grownCap w s.size 0 e) (s.data.toList.map b8) := by
  have hge := grownCap_ge w s.size 0 e
  have hnew := Lib.bytesWorld_at_new w e s
  have hsz : (Lib.bytesCells w e s).size = grownCap w s.size 0 e := by
    have : s.data.size = s.size := rfl
    simp only [Lib.bytesCells, Array.size_append, Array.size_map, Array.size_replicate, this]
    omega
  have hm : grownCap w s.size 0 e ≤ maxLen := grownCap_le_maxLen w s.size 0 e (by unfold maxLen; omega)
  refine ⟨⟨by simp, hge, hm, (fun h => by cases h), fun j u hu => ?_⟩, fun a ha => ?_⟩
  · rw [at_some]
    have e1 : (⟨w.heap.size, 0, none⟩ : Addr).add j = ⟨w.heap.size, j, none⟩ := by unfold Addr.add; split <;> simp_all
    have hj : j < s.size := by
      have := (List.getElem?_eq_some_iff.1 hu).1
      simpa using this
    rw [e1, Lib.bytesWorld_cell w e s j hj]
    rw [List.getElem?_map] at hu
    have hjl : j < s.data.toList.length := by simpa using hj
    rw [List.getElem?_eq_getElem hjl] at hu
    simp only [Option.map_some, Option.some.injEq] at hu
    subst hu
    simp only [List.getD, List.getElem?_eq_getElem hjl, Option.getD_some]
    rfl
  · obtain rfl := Option.some.inj ha
    exact ⟨rfl, Nat.le_refl _, _, _, hnew, by simp only [hsz]; omega, fun j _ hj => by
      dsimp only at hj
      simp only [hsz]
      omega⟩

/-- []byte(s). -/
theorem wpList_s2b (hgd : o.guard = none) (x : Operand) (ho : o.op = .convert src dst x) (hs : P.underlying src = some .string) (hd : P.underlying dst = some (.slice e)) (he : P.underlying e = some (.int .u8))
    (s : ByteArray) (hx : a.eval x = .string s) (hsz : s.size ≤ 1073741824)
    (k : ∀ c' w', Own w' w.heap.size e 1 (some ⟨w.heap.size, 0, none⟩) s.size c' (s.data.toList.map b8) → Below w.heap.size w w' → wpList P ops Q rest (a.put o.dst (.slice (some ⟨w.heap.size, 0, none⟩) s.size c')) w') :
    wpList P ops Q (o :: rest) a w := by
  refine wpList_plain hgd fun K hK => ?_
  have hrun := Lib.run_convert_string_bytes w src dst e s hs hd he
  unfold Oper.wp execOp
  simp only [ho, hx, hrun, Sem.run_bind, Result.andThen_ok, Sem.run_pure]
  exact hK _ _ (k _ _ (bytesWorld_own w e s hsz) (bytesWorld_below w e s))

/-- An operation that is reached, guarded or not. -/
theorem wpList_taken (hw : Region.wanted o (yielded ops a.tmps) = true)
    (h : ∀ K : Act → World → Prop, (∀ a w, wpList P ops Q rest a w → K a w) → o.wp P a w K Q) : wpList P ops Q (o :: rest) a w :=
  wpList_step fun K hK => by simp only [hw, if_true]; exact h K hK
/-- A block known whole, loaded. -/
theorem wpList_load_all (hw : Region.wanted o (yielded ops a.tmps) = true) (ty : TypeId) (x : Operand) (ho : o.op = .load ty x)
    (g : Nat) (hx : a.eval x = .pointer (some ⟨g, 0, none⟩)) (t : TypeId) (cs : Array Value) (fr : Nat × Nat) (d : TypeDesc) (hg : w.heap[g]? = some (.cells cs t fr))
    (hu : P.underlying ty = some d) (hd : (match d with | .struct _ | .array _ _ => true | _ => false) = true) (hi : (P.info? ty).map (·.size) = some cs.size)
    (h : wpList P ops Q rest (a.put o.dst (.agg cs)) w) : wpList P ops Q (o :: rest) a w :=
  wpList_taken hw fun _ hK => wp_load_row ty x ho g hx t cs fr d hg hu hd hi (hK _ _ h)

theorem sizeOf_run {P : Program} {ty : TypeId} {n : Nat} (hi : (P.info? ty).map (·.size) = some n) (W : World) : (sizeOf ty).run P W = .ok n W := by
  cases h : P.info? ty with
  | none => simp [h] at hi
  | some i =>
    simp [h] at hi
    simp [sizeOf, typeInfo, h, hi]
/-- A whole value stored over a block of its size. -/
theorem run_storeVar_all {ty t : TypeId} {g : Nat} {cs vs : Array Value} (hg : w.heap[g]? = some (.cells cs t (0, 0))) (hi : (P.info? ty).map (·.size) = some vs.size) (hs : cs.size = vs.size) (h1 : ∀ v ∈ vs.toList, v.oneCell' = true) :
    (storeVar ty ⟨g, 0, none⟩ (.agg vs)).run P w = .ok () (w.setRow g vs) := by
  have h := run_storeCells_fr P g 0 t (0, 0) vs.toList 0 cs w hg (by simp [hs]) (fun j _ _ => by omega) h1
  have e : (cs.toList.take (0 + 0) ++ vs.toList ++ cs.toList.drop (0 + 0 + vs.toList.length)).toArray = vs := by
    have : cs.toList.drop vs.size = [] := List.drop_eq_nil_of_le (by simp [hs])
    simp [this]
  rw [e] at h
  simp only [storeVar, Sem.run_bind, sizeOf_run hi, Result.andThen_ok, Value.cells, ne_eq, not_true_eq_false, if_false, h]
theorem wpList_store_all (hw : Region.wanted o (yielded ops a.tmps) = true) (ty : TypeId) (x y : Operand) (ho : o.op = .store ty x y) (g : Nat) (hx : a.eval x = .pointer (some ⟨g, 0, none⟩)) (t : TypeId) (cs vs : Array Value) (hy : a.eval y = .agg vs) (hg : w.heap[g]? = some (.cells cs t (0, 0)))
    (hi : (P.info? ty).map (·.size) = some vs.size) (hs : cs.size = vs.size) (h1 : ∀ v ∈ vs.toList, v.oneCell' = true)
    (k : ∀ w', w'.heap[g]? = some (.cells vs t (0, 0)) → w.grownBy w' (some g) → w'.heap.size = w.heap.size → wpList P ops Q rest (a.put o.dst undef) w') : wpList P ops Q (o :: rest) a w := by
  refine wpList_taken hw fun K hK => ?_
  have hrun := run_storeVar_all (P := P) (ty := ty) hg hi hs h1
  unfold Oper.wp execOp
  simp only [ho, hx, hy, Instr.storeAt, Instr.sureAddr, Sem.run_bind, Sem.run_pure, Result.andThen_ok, hrun]
  exact hK _ _ (k _ (setRow_heap w g cs vs t (0, 0) hg) ⟨rfl, rfl, rfl, by simp, fun q _ hq => setRow_other w g q _ (fun e => hq (by rw [e]))⟩ (by simp))
theorem wp_store_all {K : Act → World → Prop} (ty : TypeId) (x y : Operand) (ho : o.op = .store ty x y) (g : Nat) (hx : a.eval x = .pointer (some ⟨g, 0, none⟩)) (t : TypeId) (cs vs : Array Value) (hy : a.eval y = .agg vs) (hg : w.heap[g]? = some (.cells cs t (0, 0)))
    (hi : (P.info? ty).map (·.size) = some vs.size) (hs : cs.size = vs.size) (h1 : ∀ v ∈ vs.toList, v.oneCell' = true)
    (k : ∀ w', w'.heap[g]? = some (.cells vs t (0, 0)) → w.grownBy w' (some g) → w'.heap.size = w.heap.size → K (a.put o.dst undef) w') : o.wp P a w K Q := by
  have hrun := run_storeVar_all (P := P) (ty := ty) hg hi hs h1
  unfold Oper.wp execOp
  simp only [ho, hx, hy, Instr.storeAt, Instr.sureAddr, Sem.run_bind, Sem.run_pure, Result.andThen_ok, hrun]
  exact k _ (setRow_heap w g cs vs t (0, 0) hg) ⟨rfl, rfl, rfl, by simp, fun q _ hq => setRow_other w g q _ (fun e => hq (by rw [e]))⟩ (by simp)
theorem wp_alloc_zero {K : Act → World → Prop} (ty : TypeId) (ho : o.op = .alloc ty) (z : Array Value) (hz : (P.info? ty).map (·.zero) = some (some (.agg z)))
    (k : ∀ w', w'.heap[w.heap.size]? = some (.cells z ty (0, 0)) → Below w.heap.size w w' → w'.heap.size = w.heap.size + 1 → K (a.put o.dst (.pointer (some ⟨w.heap.size, 0, none⟩))) w') : o.wp P a w K Q := by
  have hrun : (Instr.alloc ty true (.tuple #[])).run P w = .ok (.pointer (some ⟨w.heap.size, 0, none⟩)) (w.alloc (.cells z ty)) := by
    cases h : P.info? ty with
    | none => simp [h] at hz
    | some i =>
      simp [h] at hz
      simp [Instr.alloc, zeroValue, typeInfo, h, hz, newVar, newRow, Value.cells]
  unfold Oper.wp execOp
  simp only [ho, Sem.run_bind, Sem.run_pure, Result.andThen_ok, hrun]
  exact k _ (by show (w.heap.push _)[w.heap.size]? = _; simp) ((Below.refl _ _).alloc (Nat.le_refl _) _) (by simp)
/-- A new variable of a kind whose zero value is known. -/
theorem wpList_alloc_zero (hw : Region.wanted o (yielded ops a.tmps) = true) (ty : TypeId) (ho : o.op = .alloc ty) (z : Array Value) (hz : (P.info? ty).map (·.zero) = some (some (.agg z)))
    (k : ∀ w', w'.heap[w.heap.size]? = some (.cells z ty (0, 0)) → Below w.heap.size w w' → w'.heap.size = w.heap.size + 1 → wpList P ops Q rest (a.put o.dst (.pointer (some ⟨w.heap.size, 0, none⟩))) w') : wpList P ops Q (o :: rest) a w := by
  refine wpList_taken hw fun K hK => ?_
  have hrun : (Instr.alloc ty true (.tuple #[])).run P w = .ok (.pointer (some ⟨w.heap.size, 0, none⟩)) (w.alloc (.cells z ty)) := by
    cases h : P.info? ty with
    | none => simp [h] at hz
    | some i =>
      simp [h] at hz
      simp [Instr.alloc, zeroValue, typeInfo, h, hz, newVar, newRow, Value.cells]
  unfold Oper.wp execOp
  simp only [ho, Sem.run_bind, Sem.run_pure, Result.andThen_ok, hrun]
  exact hK _ _ (k _ (by show (w.heap.push _)[w.heap.size]? = _; simp) ((Below.refl _ _).alloc (Nat.le_refl _) _) (by simp))
theorem wpList_box (hw : Region.wanted o (yielded ops a.tmps) = true) (ty : TypeId) (x : Operand) (ho : o.op = .box ty x) (cs : Array Value) (hx : a.eval x = .agg cs)
    (k : ∀ w', w'.heap[w.heap.size]? = some (.cells cs ty (0, 0)) → Below w.heap.size w w' → w'.heap.size = w.heap.size + 1 → wpList P ops Q rest (a.put o.dst (.pointer (some ⟨w.heap.size, 0, none⟩))) w') : wpList P ops Q (o :: rest) a w := by
  refine wpList_taken hw fun K hK => ?_
  have hrun : (Instr.box ty (.agg cs)).run P w = .ok (.pointer (some ⟨w.heap.size, 0, none⟩)) (w.alloc (.cells cs ty)) := by simp [Instr.box, newVar, newRow, Value.cells]
  unfold Oper.wp execOp
  simp only [ho, hx, Sem.run_bind, Sem.run_pure, Result.andThen_ok, hrun]
  exact hK _ _ (k _ (by show (w.heap.push _)[w.heap.size]? = _; simp) ((Below.refl _ _).alloc (Nat.le_refl _) _) (by simp))
/-- A load, a build, whose run is known. -/
theorem wpList_load_run (hw : Region.wanted o (yielded ops a.tmps) = true) (ty : TypeId) (x : Operand) (ho : o.op = .load ty x) (ad : Addr) (hx : a.eval x = .pointer (some ad)) (v : Value) (hrun : (loadVar ty ad).run P w = .ok v w)
    (k : wpList P ops Q rest (a.put o.dst v) w) : wpList P ops Q (o :: rest) a w := by
  refine wpList_taken hw fun K hK => ?_
  unfold Oper.wp execOp
  simp only [ho, hx, Instr.loadAt, Instr.sureAddr, Sem.run_bind, Sem.run_pure, Result.andThen_ok, hrun]
  exact hK _ _ k
theorem wpList_build_run (hw : Region.wanted o (yielded ops a.tmps) = true) (ty : TypeId) (parts : Array (Nat × Operand)) (ho : o.op = .build ty parts) (vs : Array (Nat × Value)) (hx : (parts.map fun (i, x) => (i, a.eval x)) = vs) (v : Value) (hrun : (Instr.build ty vs).run P w = .ok v w)
    (k : wpList P ops Q rest (a.put o.dst v) w) : wpList P ops Q (o :: rest) a w := by
  refine wpList_taken hw fun K hK => ?_
  unfold Oper.wp execOp
  simp only [ho, hx, Sem.run_bind, Sem.run_pure, Result.andThen_ok, hrun]
  exact hK _ _ k
/-- An array of one-cell elements, loaded out of a row. -/
theorem run_loadVar_arr {ty e : TypeId} {n c : Nat} {ad : Addr} {xs : List Value} (hu : P.underlying ty = some (.array n e)) (hi : (P.info? ty).map (·.size) = some n) (h : Rd w 1 (some ad) n c xs) : (loadVar ty ad).run P w = .ok (.agg xs.toArray) w := by
  have hl := run_loadCells_list (P := P) w ad xs (fun j v hv => by have := h.cell j v hv; rwa [at_some] at this)
  have hxn : xs.length = n := by simpa using h.len
  rw [hxn] at hl
  simp [loadVar, isAgg, run_underlying hu, sizeOf_run hi, hl]
end

end Go.Proofs.YteldghiejmpknaaDoor
