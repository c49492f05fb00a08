/-
  Joined texts of this claim's author (each began as a text of its own; each says itself what it holds).
-/
import Derived.Test.YtckkmdigmecagaaGreatDoorG00
import Derived.Lib.ConvBytes
import Derived.Lib.SlBytesConst
import Derived.Laws.Rows
import Derived.Lib.LaidTab
import Derived.LaidMore
import Derived.Deep.CutRange
import Derived.Deep.CutBlock
set_option linter.unusedVariables false
set_option linter.unusedSimpArgs false

/-
  Strings and bytes: []byte(s) as a step of a walk; a block known whole, stored whole; operations that are guarded.
-/
namespace Go.Proofs.YtckkmdigmecagaaGreatDoor.Hx
open Go.RowKit

theorem Rd.drop_ {w : World} {A : Option Addr} {n c : Nat} {l : List UInt8} (h : Rd w 1 A n c (l.map b8)) {k : Nat} (hk : k ≤ n) : Rd w 1 (cutA A c k 1) (n - k) (c - k) ((l.drop k).map b8) := by
  have h1 := h.cut (lo := k) (hi := n) hk (Nat.le_refl _)
  rw [Nat.mul_one, Nat.mul_one, ← List.map_drop, List.take_of_length_le (by have := h.lenb; simp; omega)] at h1
  exact h1
theorem Rd.take_ {w : World} {A : Option Addr} {n c : Nat} {l : List UInt8} (h : Rd w 1 A n c (l.map b8)) {k : Nat} (hk : k ≤ n) : Rd w 1 A k c ((l.take k).map b8) := by
  have := h.lenb
  refine ⟨by simp; omega, Nat.le_trans hk h.le, h.max, h.nil, fun j u hu => h.cell j u ?_⟩
  rw [List.map_take, List.getElem?_take] at hu
  split at hu
  · exact hu
  · cases hu

section
variable {P : Program} {w : World} {e src dst : TypeId}
variable {ops : Array Oper} {rest : List Oper} {o : Oper} {a : Act} {Q : Exit → Act → World → Prop}

theorem grownCap_ge' (w : World) (n : Nat) (e : TypeId) : n ≤ grownCap w n 0 e := grownCap_ge w n 0 e
theorem bytesWorld_below (w : World) (e : TypeId) (s : ByteArray) : Below w.heap.size w (Lib.bytesWorld w e s) :=
  ⟨rfl, rfl, rfl, by rw [Lib.bytesWorld_size]; omega, fun k hk => Lib.bytesWorld_at_old w e s k hk⟩
theorem bytesWorld_own (w : World) (e : TypeId) (s : ByteArray) (hs : s.size ≤ 1073741824) : Own (Lib.bytesWorld w e s) w.heap.size e 1 (some ⟨w.heap.size, 0, none⟩) s.size (grownCap w s.size 0 e) (s.data.toList.map b8) := by
  have hge := grownCap_ge w s.size 0 e
  have hnew := Lib.bytesWorld_at_new w e s
  have hsz : (Lib.bytesCells w e s).size = grownCap w s.size 0 e := by
    have : s.data.size = s.size := rfl
    simp only [Lib.bytesCells, Array.size_append, Array.size_map, Array.size_replicate, this]
    omega
  have hm : grownCap w s.size 0 e ≤ maxLen := grownCap_le_maxLen w s.size 0 e (by unfold maxLen; omega)
  refine ⟨⟨by simp, hge, hm, (fun h => by cases h), fun j u hu => ?_⟩, fun a ha => ?_⟩
  · rw [at_some]
    have e1 : (⟨w.heap.size, 0, none⟩ : Addr).add j = ⟨w.heap.size, j, none⟩ := by unfold Addr.add; split <;> simp_all
    have hj : j < s.size := by
      have := (List.getElem?_eq_some_iff.1 hu).1
      simpa using this
    rw [e1, Lib.bytesWorld_cell w e s j hj]
    rw [List.getElem?_map] at hu
    have hjl : j < s.data.toList.length := by simpa using hj
    rw [List.getElem?_eq_getElem hjl] at hu
    simp only [Option.map_some, Option.some.injEq] at hu
    subst hu
    simp only [List.getD, List.getElem?_eq_getElem hjl, Option.getD_some]
    rfl
  · obtain rfl := Option.some.inj ha
    exact ⟨rfl, Nat.le_refl _, _, _, hnew, by simp only [hsz]; omega, fun j _ hj => by
      dsimp only at hj
      simp only [hsz]
      omega⟩

/-- []byte(s). -/
theorem wpList_s2b (hgd : o.guard = none) (x : Operand) (ho : o.op = .convert src dst x) (hs : P.underlying src = some .string) (hd : P.underlying dst = some (.slice e)) (he : P.underlying e = some (.int .u8))
    (s : ByteArray) (hx : a.eval x = .string s) (hsz : s.size ≤ 1073741824)
    (k : ∀ c' w', Own w' w.heap.size e 1 (some ⟨w.heap.size, 0, none⟩) s.size c' (s.data.toList.map b8) → Below w.heap.size w w' → wpList P ops Q rest (a.put o.dst (.slice (some ⟨w.heap.size, 0, none⟩) s.size c')) w') :
    wpList P ops Q (o :: rest) a w := by
  refine wpList_plain hgd fun K hK => ?_
  have hrun := Lib.run_convert_string_bytes w src dst e s hs hd he
  unfold Oper.wp execOp
  simp only [ho, hx, hrun, Sem.run_bind, Result.andThen_ok, Sem.run_pure]
  exact hK _ _ (k _ _ (bytesWorld_own w e s hsz) (bytesWorld_below w e s))

/-- An operation that is reached, guarded or not. -/
theorem wpList_taken (hw : Region.wanted o (yielded ops a.tmps) = true)
    (h : ∀ K : Act → World → Prop, (∀ a w, wpList P ops Q rest a w → K a w) → o.wp P a w K Q) : wpList P ops Q (o :: rest) a w :=
  wpList_step fun K hK => by simp only [hw, if_true]; exact h K hK
/-- A block known whole, loaded. -/
theorem wpList_load_all (hw : Region.wanted o (yielded ops a.tmps) = true) (ty : TypeId) (x : Operand) (ho : o.op = .load ty x)
    (g : Nat) (hx : a.eval x = .pointer (some ⟨g, 0, none⟩)) (t : TypeId) (cs : Array Value) (fr : Nat × Nat) (d : TypeDesc) (hg : w.heap[g]? = some (.cells cs t fr))
    (hu : P.underlying ty = some d) (hd : (match d with | .struct _ | .array _ _ => true | _ => false) = true) (hi : (P.info? ty).map (·.size) = some cs.size)
    (h : wpList P ops Q rest (a.put o.dst (.agg cs)) w) : wpList P ops Q (o :: rest) a w :=
  wpList_taken hw fun _ hK => wp_load_row ty x ho g hx t cs fr d hg hu hd hi (hK _ _ h)

theorem sizeOf_run {P : Program} {ty : TypeId} {n : Nat} (hi : (P.info? ty).map (·.size) = some n) (W : World) : (sizeOf ty).run P W = .ok n W := by
  cases h : P.info? ty with
  | none => simp [h] at hi
  | some i =>
    simp [h] at hi
    simp [sizeOf, typeInfo, h, hi]
/-- A whole value stored over a block of its size. -/
theorem run_storeVar_all {ty t : TypeId} {g : Nat} {cs vs : Array Value} (hg : w.heap[g]? = some (.cells cs t (0, 0))) (hi : (P.info? ty).map (·.size) = some vs.size) (hs : cs.size = vs.size) (h1 : ∀ v ∈ vs.toList, v.oneCell' = true) :
    (storeVar ty ⟨g, 0, none⟩ (.agg vs)).run P w = .ok () (w.setRow g vs) := by
  have h := run_storeCells_fr P g 0 t (0, 0) vs.toList 0 cs w hg (by simp [hs]) (fun j _ _ => by omega) h1
  have e : (cs.toList.take (0 + 0) ++ vs.toList ++ cs.toList.drop (0 + 0 + vs.toList.length)).toArray = vs := by
    have : cs.toList.drop vs.size = [] := List.drop_eq_nil_of_le (by simp [hs])
    simp [this]
  rw [e] at h
  simp only [storeVar, Sem.run_bind, sizeOf_run hi, Result.andThen_ok, Value.cells, ne_eq, not_true_eq_false, if_false, h]
theorem wpList_store_all (hw : Region.wanted o (yielded ops a.tmps) = true) (ty : TypeId) (x y : Operand) (ho : o.op = .store ty x y) (g : Nat) (hx : a.eval x = .pointer (some ⟨g, 0, none⟩)) (t : TypeId) (cs vs : Array Value) (hy : a.eval y = .agg vs) (hg : w.heap[g]? = some (.cells cs t (0, 0)))
    (hi : (P.info? ty).map (·.size) = some vs.size) (hs : cs.size = vs.size) (h1 : ∀ v ∈ vs.toList, v.oneCell' = true)
    (k : ∀ w', w'.heap[g]? = some (.cells vs t (0, 0)) → w.grownBy w' (some g) → w'.heap.size = w.heap.size → wpList P ops Q rest (a.put o.dst undef) w') : wpList P ops Q (o :: rest) a w := by
  refine wpList_taken hw fun K hK => ?_
  have hrun := run_storeVar_all (P := P) (ty := ty) hg hi hs h1
  unfold Oper.wp execOp
  simp only [ho, hx, hy, Instr.storeAt, Instr.sureAddr, Sem.run_bind, Sem.run_pure, Result.andThen_ok, hrun]
  exact hK _ _ (k _ (setRow_heap w g cs vs t (0, 0) hg) ⟨rfl, rfl, rfl, by simp, fun q _ hq => setRow_other w g q _ (fun e => hq (by rw [e]))⟩ (by simp))
theorem wp_store_all {K : Act → World → Prop} (ty : TypeId) (x y : Operand) (ho : o.op = .store ty x y) (g : Nat) (hx : a.eval x = .pointer (some ⟨g, 0, none⟩)) (t : TypeId) (cs vs : Array Value) (hy : a.eval y = .agg vs) (hg : w.heap[g]? = some (.cells cs t (0, 0)))
    (hi : (P.info? ty).map (·.size) = some vs.size) (hs : cs.size = vs.size) (h1 : ∀ v ∈ vs.toList, v.oneCell' = true)
    (k : ∀ w', w'.heap[g]? = some (.cells vs t (0, 0)) → w.grownBy w' (some g) → w'.heap.size = w.heap.size → K (a.put o.dst undef) w') : o.wp P a w K Q := by
  have hrun := run_storeVar_all (P := P) (ty := ty) hg hi hs h1
  unfold Oper.wp execOp
  simp only [ho, hx, hy, Instr.storeAt, Instr.sureAddr, Sem.run_bind, Sem.run_pure, Result.andThen_ok, hrun]
  exact k _ (setRow_heap w g cs vs t (0, 0) hg) ⟨rfl, rfl, rfl, by simp, fun q _ hq => setRow_other w g q _ (fun e => hq (by rw [e]))⟩ (by simp)
theorem wp_alloc_zero {K : Act → World → Prop} (ty : TypeId) (ho : o.op = .alloc ty) (z : Array Value) (hz : (P.info? ty).map (·.zero) = some (some (.agg z)))
    (k : ∀ w', w'.heap[w.heap.size]? = some (.cells z ty (0, 0)) → Below w.heap.size w w' → w'.heap.size = w.heap.size + 1 → K (a.put o.dst (.pointer (some ⟨w.heap.size, 0, none⟩))) w') : o.wp P a w K Q := by
  have hrun : (Instr.alloc ty true (.tuple #[])).run P w = .ok (.pointer (some ⟨w.heap.size, 0, none⟩)) (w.alloc (.cells z ty)) := by
    cases h : P.info? ty with
    | none => simp [h] at hz
    | some i =>
      simp [h] at hz
      simp [Instr.alloc, zeroValue, typeInfo, h, hz, newVar, newRow, Value.cells]
  unfold Oper.wp execOp
  simp only [ho, Sem.run_bind, Sem.run_pure, Result.andThen_ok, hrun]
  exact k _ (by show (w.heap.push _)[w.heap.size]? = _; simp) ((Below.refl _ _).alloc (Nat.le_refl _) _) (by simp)
/-- A new variable of a kind whose zero value is known. -/
theorem wpList_alloc_zero (hw : Region.wanted o (yielded ops a.tmps) = true) (ty : TypeId) (ho : o.op = .alloc ty) (z : Array Value) (hz : (P.info? ty).map (·.zero) = some (some (.agg z)))
    (k : ∀ w', w'.heap[w.heap.size]? = some (.cells z ty (0, 0)) → Below w.heap.size w w' → w'.heap.size = w.heap.size + 1 → wpList P ops Q rest (a.put o.dst (.pointer (some ⟨w.heap.size, 0, none⟩))) w') : wpList P ops Q (o :: rest) a w := by
  refine wpList_taken hw fun K hK => ?_
  have hrun : (Instr.alloc ty true (.tuple #[])).run P w = .ok (.pointer (some ⟨w.heap.size, 0, none⟩)) (w.alloc (.cells z ty)) := by
    cases h : P.info? ty with
    | none => simp [h] at hz
    | some i =>
      simp [h] at hz
      simp [Instr.alloc, zeroValue, typeInfo, h, hz, newVar, newRow, Value.cells]
  unfold Oper.wp execOp
  simp only [ho, Sem.run_bind, Sem.run_pure, Result.andThen_ok, hrun]
  exact hK _ _ (k _ (by show (w.heap.push _)[w.heap.size]? = _; simp) ((Below.refl _ _).alloc (Nat.le_refl _) _) (by simp))
theorem wpList_box (hw : Region.wanted o (yielded ops a.tmps) = true) (ty : TypeId) (x : Operand) (ho : o.op = .box ty x) (cs : Array Value) (hx : a.eval x = .agg cs)
    (k : ∀ w', w'.heap[w.heap.size]? = some (.cells cs ty (0, 0)) → Below w.heap.size w w' → w'.heap.size = w.heap.size + 1 → wpList P ops Q rest (a.put o.dst (.pointer (some ⟨w.heap.size, 0, none⟩))) w') : wpList P ops Q (o :: rest) a w := by
  refine wpList_taken hw fun K hK => ?_
  have hrun : (Instr.box ty (.agg cs)).run P w = .ok (.pointer (some ⟨w.heap.size, 0, none⟩)) (w.alloc (.cells cs ty)) := by simp [Instr.box, newVar, newRow, Value.cells]
  unfold Oper.wp execOp
  simp only [ho, hx, Sem.run_bind, Sem.run_pure, Result.andThen_ok, hrun]
  exact hK _ _ (k _ (by show (w.heap.push _)[w.heap.size]? = _; simp) ((Below.refl _ _).alloc (Nat.le_refl _) _) (by simp))
/-- A load, a build, whose run is known. -/
theorem wpList_load_run (hw : Region.wanted o (yielded ops a.tmps) = true) (ty : TypeId) (x : Operand) (ho : o.op = .load ty x) (ad : Addr) (hx : a.eval x = .pointer (some ad)) (v : Value) (hrun : (loadVar ty ad).run P w = .ok v w)
    (k : wpList P ops Q rest (a.put o.dst v) w) : wpList P ops Q (o :: rest) a w := by
  refine wpList_taken hw fun K hK => ?_
  unfold Oper.wp execOp
  simp only [ho, hx, Instr.loadAt, Instr.sureAddr, Sem.run_bind, Sem.run_pure, Result.andThen_ok, hrun]
  exact hK _ _ k
theorem wpList_build_run (hw : Region.wanted o (yielded ops a.tmps) = true) (ty : TypeId) (parts : Array (Nat × Operand)) (ho : o.op = .build ty parts) (vs : Array (Nat × Value)) (hx : (parts.map fun (i, x) => (i, a.eval x)) = vs) (v : Value) (hrun : (Instr.build ty vs).run P w = .ok v w)
    (k : wpList P ops Q rest (a.put o.dst v) w) : wpList P ops Q (o :: rest) a w := by
  refine wpList_taken hw fun K hK => ?_
  unfold Oper.wp execOp
  simp only [ho, hx, Sem.run_bind, Sem.run_pure, Result.andThen_ok, hrun]
  exact hK _ _ k
/-- An array of one-cell elements, loaded out of a row. -/
theorem run_loadVar_arr {ty e : TypeId} {n c : Nat} {ad : Addr} {xs : List Value} (hu : P.underlying ty = some (.array n e)) (hi : (P.info? ty).map (·.size) = some n) (h : Rd w 1 (some ad) n c xs) : (loadVar ty ad).run P w = .ok (.agg xs.toArray) w := by
  have hl := run_loadCells_list (P := P) w ad xs (fun j v hv => by have := h.cell j v hv; rwa [at_some] at this)
  have hxn : xs.length = n := by simpa using h.len
  rw [hxn] at hl
  simp [loadVar, isAgg, run_underlying hu, sizeOf_run hi, hl]
end

end Go.Proofs.YtckkmdigmecagaaGreatDoor.Hx

/-
  Hexadecimal numbers in plain words.
-/
namespace Go.Proofs.YtckkmdigmecagaaGreatDoor.Hx
open Go.RowKit

/-- A digit below 16. -/
def hexD (d : Nat) : UInt8 := if d < 10 then UInt8.ofNat (48 + d) else UInt8.ofNat (87 + d)
/-- The digits of a number; none of 0. -/
def hex0 (v : Nat) : List UInt8 := if h : v = 0 then [] else hex0 (v / 16) ++ [hexD (v % 16)]
theorem hex0_zero : hex0 0 = [] := by rw [hex0]; rfl
theorem hex0_pos {v : Nat} (h : 0 < v) : hex0 v = hex0 (v / 16) ++ [hexD (v % 16)] := by
  rw [hex0]
  exact dif_neg (by omega)
theorem hex0_one {v : Nat} (h : 0 < v) (h2 : v < 16) : hex0 v = [hexD v] := by
  rw [hex0_pos h, show v / 16 = 0 by omega, hex0_zero, show v % 16 = v by omega]
  rfl
theorem hex0_len : ∀ (k v : Nat), v < 16 ^ k → (hex0 v).length ≤ k
  | 0, v, h => by
    obtain rfl : v = 0 := by simpa using h
    rw [hex0_zero]
    exact Nat.le_refl _
  | k + 1, v, h => by
    by_cases h0 : v = 0
    · subst h0
      rw [hex0_zero]
      exact Nat.zero_le _
    · rw [hex0_pos (by omega), List.length_append]
      have := hex0_len k (v / 16) (by rw [Nat.pow_succ] at h; exact Nat.div_lt_of_lt_mul (by omega))
      simp only [List.length_cons, List.length_nil]
      omega
/-- What the digits of n are when those of v stand still out and w is there. -/
def hexAt (n v : Nat) (w : List UInt8) : Prop := hex0 n = hex0 v ++ w
theorem hexAt_start (n : Nat) : hexAt n n [] := (List.append_nil _).symm
theorem hexAt_step {n v : Nat} {w : List UInt8} (h : hexAt n v w) (hv : 0 < v) : hexAt n (v / 16) (hexD (v % 16) :: w) := by
  unfold hexAt at *
  rw [h, hex0_pos hv, List.append_assoc]
  rfl
theorem hexAt_end {n : Nat} {w : List UInt8} (h : hexAt n 0 w) : hex0 n = w := by
  unfold hexAt at h
  rw [h, hex0_zero]
  rfl
theorem hexD_get : ∀ d : Fin 16, ([48, 49, 50, 51, 52, 53, 54, 55, 56, 57, 97, 98, 99, 100, 101, 102] : List UInt8)[d.1]? = some (hexD d.1) := by decide
/-- A body in chunks of k bytes at the most. -/
def chunksL (k : Nat) : Nat → List UInt8 → List UInt8
  | 0, _ => [48, 13, 10, 13, 10]
  | f + 1, l => if l = [] then [48, 13, 10, 13, 10] else hex0 (min k l.length) ++ [13, 10] ++ l.take (min k l.length) ++ [13, 10] ++ chunksL k f (l.drop (min k l.length))
theorem chunksL_nil (k f : Nat) : chunksL k f [] = [48, 13, 10, 13, 10] := by cases f <;> simp [chunksL]
theorem chunksL_step {k f : Nat} {l : List UInt8} (h : l ≠ []) : chunksL k (f + 1) l = hex0 (min k l.length) ++ [13, 10] ++ l.take (min k l.length) ++ [13, 10] ++ chunksL k f (l.drop (min k l.length)) := if_neg h

end Go.Proofs.YtckkmdigmecagaaGreatDoor.Hx

/-
  The library's formatBits at base 16.
-/
namespace Go.Proofs.YtckkmdigmecagaaGreatDoor.Hx
open Go.RowKit

def deb64 : List Int := [0, 1, 56, 2, 57, 49, 28, 3, 61, 58, 42, 50, 38, 29, 17, 4, 62, 47, 59, 36, 45, 43, 51, 22, 53, 39, 33, 30, 24, 18, 12, 5, 63, 55, 48, 27, 60, 41, 37, 16, 46, 35, 44, 21, 52, 32, 23, 11, 54, 26, 40, 15, 34, 20, 31, 10, 25, 14, 19, 9, 13, 8, 7, 6]
/-- The table of the lowest bit's place is laid. -/
def HTab (w : World) : Prop := Lib.TabIs Tryz.prog w "math/bits.deBruijn64tab" .u8 deb64
theorem deb_global : Tryz.prog.globalNamed "math/bits.deBruijn64tab" = some 6 := by kernel_rfl
theorem HTab.below {w w' : World} (h : HTab w) (hb : Below w.heap.size w w') : HTab w' := by
  unfold HTab Lib.TabIs World.var? at *
  rw [deb_global] at *
  dsimp only [Option.bind_some] at *
  have hlt : 6 < w.heap.size := by
    by_cases h' : 6 < w.heap.size
    · exact h'
    · rw [Array.getElem?_eq_none (by omega)] at h
      cases h
  rw [hb.block 6 hlt]
  exact h
theorem HTab.cell {w : World} (h : HTab w) : w.cell? ⟨6, 15, none⟩ = some (.int .u8 4) := Lib.TabIs.cell h deb_global 15 (by decide)

set_option maxRecDepth 20000 in
set_option maxHeartbeats 1000000 in
theorem Zeros64_16 (w : World) (h : HTab w) : Calls Tryz.prog 121 #[.int .u64 16] w fun e w' => e = .returned (.int .i64 4) ∧ w = w' := by
  have hc := h.cell
  have e1 : bits .and .u64 16 (IntKind.u64.wrap (-16)) = 16 := by decide +kernel
  have e2 : IntKind.u64.wrap (16 * 285870213051353865) / 288230376151711744 = 15 := by decide +kernel
  clear h
  go_enter Tryz.func121, Tryz.ntmps121
  go_wp2_with fail
  go_ret
  exact ⟨rfl, rfl⟩
theorem Zeros_16 (w : World) (h : HTab w) : Calls Tryz.prog 105 #[.int .u64 16] w fun e w' => e = .returned (.int .i64 4) ∧ w = w' := by
  have hc := Zeros64_16 w h
  clear h
  go_enter Tryz.func105, Tryz.ntmps105
  go_wp2_with fail
  refine hc.mono ?_
  rintro e w' ⟨rfl, rfl⟩
  go_wp2_with fail
  go_ret
  exact ⟨rfl, rfl⟩

end Go.Proofs.YtckkmdigmecagaaGreatDoor.Hx

/-
  The library's formatBits at base 16: the walk.
-/
namespace Go.Proofs.YtckkmdigmecagaaGreatDoor.Hx
open Go.RowKit

section
variable {P : Program} {ops : Array Oper} {rest : List Oper} {o : Oper} {a : Act} {Q : Exit → Act → World → Prop} {w : World}
theorem wpList_index_run (hw : Region.wanted o (yielded ops a.tmps) = true) (ty : TypeId) (x y : Operand) (ho : o.op = .index ty x y) (u i : Value) (hx : a.eval x = u) (hi : a.eval y = i) (v : Value) (hrun : (Instr.index ty u i).run P w = .ok v w)
    (k : wpList P ops Q rest (a.put o.dst v) w) : wpList P ops Q (o :: rest) a w := by
  refine wpList_taken hw fun K hK => ?_
  unfold Oper.wp execOp
  simp only [ho, hx, hi, Sem.run_bind, Sem.run_pure, Result.andThen_ok, hrun]
  exact hK _ _ k
end
theorem at_row (g I : Nat) : at_ (some ⟨g, 0, none⟩) I = ⟨g, I, none⟩ := by
  rw [at_some]
  unfold Addr.add
  split <;> simp_all
/-- A block of one's own, known by its cells. -/
theorem Own.block {w : World} {base g : Nat} {e : TypeId} {n : Nat} {xs : List Value} (hg : w.heap[g]? = some (.cells xs.toArray e (0, 0))) (hb : base ≤ g) (hl : xs.length = n) (hm : n ≤ maxLen) : Own w base e 1 (some ⟨g, 0, none⟩) n n xs := by
  refine ⟨⟨by omega, Nat.le_refl _, hm, (fun h => by cases h), fun j u hu => ?_⟩, fun a ha => ?_⟩
  · rw [at_some]
    have : (⟨g, 0, none⟩ : Addr).add j = ⟨g, j, none⟩ := by unfold Addr.add; split <;> simp_all
    rw [this]
    simp [World.cell?, hg, hu]
  · obtain rfl := Option.some.inj ha
    exact ⟨rfl, hb, _, _, hg, by simp; omega, fun j _ _ => by simp⟩
def zer65 : List Value := List.replicate 65 (.int .u8 0)
theorem zero_65 : (Tryz.prog.info? 152).map (·.zero) = some (some (.agg zer65.toArray)) := by kernel_rfl
theorem Pow2_16 (w : World) : Calls Tryz.prog 104 #[.int .i64 16] w fun e w' => e = .returned (.bool true) ∧ w = w' := by
  have e1 : bits .and .i64 16 15 = 0 := by decide +kernel
  go_enter Tryz.func104, Tryz.ntmps104
  go_wp2_with fail
  go_ret
  exact ⟨rfl, rfl⟩
theorem u64_and15 (u : Nat) (h : u < 4294967296) : bits .and .u64 (u : Int) 15 = ((u % 16 : Nat) : Int) := by
  have h1 := u64_and_nat u 15 (by omega) (by omega)
  rw [show (15 : Nat) = 2 ^ 4 - 1 from rfl, Nat.and_two_pow_sub_one_eq_mod] at h1
  exact h1
theorem set_row (x : UInt8) (ws : List UInt8) : ∀ I : Nat, (List.replicate (I + 1) (0 : UInt8) ++ ws).set I x = List.replicate I 0 ++ x :: ws
  | 0 => rfl
  | I + 1 => by
    have := set_row x ws I
    rw [List.replicate_succ, List.cons_append, List.set_cons_succ, this, List.replicate_succ (n := I)]
    rfl
theorem idx65 (g I : Nat) (h : I < 65) (W : World) : (Instr.indexAt 152 (.pointer (some ⟨g, 0, none⟩)) (.int .i64 (I : Int))).run Tryz.prog W = .ok (.pointer (some ⟨g, I, none⟩)) W := by
  have hl : Tryz.prog.arrayLen 152 = 65 := by kernel_rfl
  have hz : (sizeOf (Tryz.prog.elem 152)).run Tryz.prog W = .ok 1 W := sizeOf_run (by kernel_rfl) W
  rw [run_indexAt_array (P := Tryz.prog) W 152 ⟨g, 0, none⟩ .i64 (I : Int) (by kernel_rfl), if_pos ⟨by omega, by rw [hl]; omega⟩, hz, Result.andThen_ok]
  have e : (⟨g, 0, none⟩ : Addr).add ((I : Int).toNat * 1) = ⟨g, I, none⟩ := by
    rw [Int.toNat_natCast, Nat.mul_one]
    unfold Addr.add
    split <;> simp_all
  rw [e]
theorem slice65 (g I : Nat) (h : I < 65) (W : World) : (Instr.sliceAt 152 (.pointer (some ⟨g, 0, none⟩)) (some (.int .i64 (I : Int))) none none).run Tryz.prog W = .ok (.slice (some ⟨g, I, none⟩) (65 - I) (65 - I)) W := by
  have hl : Tryz.prog.arrayLen 152 = 65 := by kernel_rfl
  have hz : (sizeOf (Tryz.prog.elem 152)).run Tryz.prog W = .ok 1 W := sizeOf_run (by kernel_rfl) W
  rw [run_sliceAt_array_l (P := Tryz.prog) W 152 ⟨g, 0, none⟩ (by kernel_rfl) .i64 (I : Int) (by omega) (by rw [hl]; omega), hz, Result.andThen_ok, hl]
  unfold slicedAt
  have e : (⟨g, 0, none⟩ : Addr).add ((I : Int).toNat * 1) = ⟨g, I, none⟩ := by
    rw [Int.toNat_natCast, Nat.mul_one]
    unfold Addr.add
    split <;> simp_all
  rw [if_neg (by omega), e, Int.toNat_natCast]
theorem tail65 {w : World} {g I : Nat} {ws : List UInt8} (h : Rd w 1 (some ⟨g, 0, none⟩) 65 65 ((List.replicate I (0 : UInt8) ++ ws).map b8)) : Rd w 1 (some ⟨g, I, none⟩) (65 - I) (65 - I) (ws.map b8) := by
  have hl := h.len
  simp only [List.length_map, List.length_append, List.length_replicate] at hl
  refine ⟨by rw [List.length_map]; omega, Nat.le_refl _, by unfold maxLen; omega, (fun h => by cases h), fun j u hu => ?_⟩
  have h1 := h.cell (I + j) u (by
    rw [List.map_append, List.getElem?_append_right (by simp)]
    simpa using hu)
  rw [at_row] at h1
  rw [at_some]
  have e : (⟨g, I, none⟩ : Addr).add j = ⟨g, I + j, none⟩ := by unfold Addr.add; split <;> simp_all
  rw [e]
  exact h1
def digS : ByteArray := ⟨#[48, 49, 50, 51, 52, 53, 54, 55, 56, 57, 97, 98, 99, 100, 101, 102, 103, 104, 105, 106, 107, 108, 109, 110, 111, 112, 113, 114, 115, 116, 117, 118, 119, 120, 121, 122]⟩

theorem dig_size : digS.size = 36 := rfl
theorem dig_fin : ∀ d : Fin 16, digS[d.1]? = some (hexD d.1) := by decide +kernel
theorem dig_run (d : Nat) (hd : d < 16) (W : World) : (Instr.index 9 (.string digS) (.int .u64 (d : Int))).run Tryz.prog W = .ok (.int .u8 ((hexD d).toNat : Int)) W := by
  have h1 := dig_fin ⟨d, hd⟩
  have hs : d < digS.size := by rw [dig_size]; omega
  rw [getElem?_pos digS d hs] at h1
  have h2 := Option.some.inj h1
  rw [run_index_string (P := Tryz.prog) W 9 digS .u64 (d : Int) Tryz.underlying9, dif_pos ⟨by omega, by omega⟩]
  have e : (d : Int).toNat = d := Int.toNat_natCast d
  simp only [e, h2]

set_option maxRecDepth 20000 in
set_option maxHeartbeats 2000000 in
theorem formatBits_16 {w : World} {B : Nat} {A : Option Addr} {n c : Nat} {l : List UInt8} (h : Own w B 5 1 A n c (l.map b8)) (hB : B ≤ w.heap.size) (hn : n ≤ 1073741824) (v : Nat) (hv0 : 0 < v) (hv : v < 4294967296) (ht : HTab w) :
    Calls Tryz.prog 88 #[.slice A n c, .int .u64 v, .int .i64 16, .bool false, .bool true] w fun e w' => ∃ A' c', e = .returned (.tuple #[.slice A' (n + (hex0 v).length) c', .string ⟨#[]⟩]) ∧ Own w' B 5 1 A' (n + (hex0 v).length) c' ((l ++ hex0 v).map b8) ∧ Below B w w' := by
  have HZ := Lib.hid (fun W (hb : Below w.heap.size w W) => Zeros_16 W (ht.below hb))
  have hv1 : (v : Int) < 4294967296 := by omega
  have e1 : bits .and .i64 16 15 = 0 := by decide +kernel
  go_enter Tryz.func88, Tryz.ntmps88
  go_wp2_with (first
    | (refine wpList_alloc_zero rfl _ rfl zer65.toArray zero_65 ?_; intro w1 hg1 hb1 hz1; clear hz1))
  refine (Pow2_16 _).mono ?_
  rintro e w2 ⟨rfl, rfl⟩
  go_wp2_with fail
  refine (HZ.out _ hb1).mono ?_
  rintro e w2 ⟨rfl, rfl⟩
  have hO : Own w1 w.heap.size 152 1 (some ⟨w.heap.size, 0, none⟩) 65 65 ((List.replicate 65 (0 : UInt8) ++ []).map b8) := Own.block hg1 (Nat.le_refl _) (by simp) (by decide)
  have hK : v < 16 ^ 8 := by omega
  clear hg1
  go_wp2_with fail
  go_loopw [1, 13] (fun u i wr => ∃ (U K : Nat) (ws : List UInt8), u = .int .u64 U ∧ 0 < U ∧ U < 4294967296 ∧ i = .int .i64 ((65 - ws.length : Nat) : Int) ∧ Hid (K + ws.length = 8) ∧ Hid (U < 16 ^ K) ∧ Hid (hexAt v U ws) ∧ Own wr w.heap.size 152 1 (some ⟨w.heap.size, 0, none⟩) 65 65 ((List.replicate (65 - ws.length) (0 : UInt8) ++ ws).map b8) ∧ Below w.heap.size w wr) (fun u _ _ => (intOf u).toNat)
  case atStart => exact ⟨v, 8, [], rfl, hv0, hv, rfl, rfl, hK, hexAt_start v, hO, hb1⟩
  case round =>
    obtain ⟨U, K, ws, rfl, hU0, hU, rfl, HKW, HK, HH, ho, hb⟩ := hrel
    have hw8 : ws.length ≤ 8 := by have := HKW.out; omega
    by_cases hge : 16 ≤ U
    · have hge' : decide ((16 : Int) ≤ U) = true := decide_eq_true (by omega)
      have hand := u64_and15 U hU
      obtain ⟨J, hJ⟩ : ∃ J : Nat, 65 - ws.length = J := ⟨_, rfl⟩
      obtain ⟨I, hI⟩ : ∃ I : Nat, J - 1 = I := ⟨_, rfl⟩
      obtain ⟨d, hd⟩ : ∃ d : Nat, U % 16 = d := ⟨_, rfl⟩
      rw [hJ] at ho ⊢
      rw [hd] at hand
      have hd16 : d < 16 := by omega
      have hI65 : I < 65 := by omega
      have hI1 : (J : Int) - 1 = I := by omega
      have hIw : IntKind.i64.wrap (I : Int) = I := IntWalk.i64_in _ (by omega)
      have hdr := dig_run d hd16
      have HJ := Lib.hid hJ
      have HI := Lib.hid hI
      have HD := Lib.hid hd
      clear hJ hI hd
      have hfr := ho.free (k := I) hI65
      obtain ⟨u0, hcp⟩ : ∃ u, wr.cell? (at_ (some ⟨w.heap.size, 0, none⟩) I) = some u := by
        have h1 := ho.rd.len
        exact ⟨_, ho.rd.cell I _ (List.getElem?_eq_getElem (by omega))⟩
      rw [at_row] at hfr hcp
      have hidx : ∀ W, (Instr.indexAt 152 (.pointer (some ⟨w.heap.size, 0, none⟩)) (.int .i64 (I : Int))).run Tryz.prog W = .ok (.pointer (some ⟨w.heap.size, I, none⟩)) W := fun W => idx65 _ I hI65 W
      clear hge
      go_upto_region 13 with fail
      have HDR := Lib.hid hdr
      clear hI1 hIw hdr e1 hv1 hO
      go_upto_region 14 with (refine wpList_index_run (by rfl) _ _ _ (by rfl) (.string digS) (.int .u64 (d : Int)) (by rfl) (by rfl) _ (HDR.out _) ?_)
      have hJ1 : J = I + 1 := by have := HI.out; have := HJ.out; omega
      have ho2 : Own (wr.setCell ⟨w.heap.size, I, none⟩ (.int .u8 ((hexD d).toNat : Int))) w.heap.size 152 1 (some ⟨w.heap.size, 0, none⟩) 65 65 ((List.replicate (65 - (hexD d :: ws).length) (0 : UInt8) ++ (hexD d :: ws)).map b8) := by
        have h1 := ho.store hI65 (.int .u8 ((hexD d).toNat : Int))
        rw [at_row, hJ1, show (Value.int .u8 ((hexD d).toNat : Int)) = b8 (hexD d) from rfl, ← List.map_set, set_row] at h1
        have e : 65 - (hexD d :: ws).length = I := by
          have := HJ.out
          rw [List.length_cons]
          omega
        rw [e]
        exact h1
      have hb2 : Below w.heap.size w (wr.setCell ⟨w.heap.size, I, none⟩ (.int .u8 ((hexD d).toNat : Int))) := hb.setCell (Nat.le_refl _) _
      clear hJ1 hfr hcp ho hb hidx hand
      go_wp2_with fail
      go_roundw
      case rel =>
        have hU16 : 16 ≤ U := by have := of_decide_eq_true hge'; omega
        have hKp : 1 ≤ K := by
          rcases Nat.eq_zero_or_pos K with h0 | h0
          · have := HK.out
            rw [h0] at this
            simp at this
            omega
          · exact h0
        obtain ⟨K', rfl⟩ : ∃ K', K = K' + 1 := ⟨K - 1, by omega⟩
        have hU2 : U / 16 < 16 ^ K' := by
          have := HK.out
          rw [Nat.pow_succ] at this
          exact Nat.div_lt_of_lt_mul (by omega)
        have hK2 : K' + (hexD d :: ws).length = 8 := by
          have := HKW.out
          rw [List.length_cons]
          omega
        have hI2 : I = 65 - (hexD d :: ws).length := by
          have := HJ.out
          have := HI.out
          rw [List.length_cons]
          omega
        have hx2 := hexAt_step HH.out hU0
        rw [HD.out] at hx2
        exact ⟨U / 16, K', hexD d :: ws, by go_num, by omega, by omega, by rw [← hI2], hK2, hU2, hx2, ho2, hb2⟩
      case measure => simp [intOf]; omega
    · have hlt : U < 16 := by omega
      have hge' : decide ((16 : Int) ≤ U) = false := decide_eq_false (by omega)
      obtain ⟨J, hJ⟩ : ∃ J : Nat, 65 - ws.length = J := ⟨_, rfl⟩
      obtain ⟨I, hI⟩ : ∃ I : Nat, J - 1 = I := ⟨_, rfl⟩
      rw [hJ] at ho ⊢
      have hI65 : I < 65 := by omega
      have hI1 : (J : Int) - 1 = I := by omega
      have hIw : IntKind.i64.wrap (I : Int) = I := IntWalk.i64_in _ (by omega)
      have HDR := Lib.hid (dig_run U hlt)
      have HJ := Lib.hid hJ
      have HI := Lib.hid hI
      have HIW := Lib.hid hIw
      have hend : hex0 v = hexD U :: ws := by
        have := HH.out
        unfold hexAt at this
        rw [this, hex0_one hU0 hlt]
        rfl
      have HEND := Lib.hid hend
      clear hend hJ hI
      have hfr := ho.free (k := I) hI65
      obtain ⟨u0, hcp⟩ : ∃ u, wr.cell? (at_ (some ⟨w.heap.size, 0, none⟩) I) = some u := by
        have h1 := ho.rd.len
        exact ⟨_, ho.rd.cell I _ (List.getElem?_eq_getElem (by omega))⟩
      rw [at_row] at hfr hcp
      have hidx := fun W => idx65 w.heap.size I hI65 W
      have hsl := fun W => slice65 w.heap.size I hI65 W
      clear hge
      go_upto_region 16 with fail
      clear hI1 hIw e1 hv1 hO
      go_upto_region 29 with (refine wpList_index_run (by rfl) _ _ _ (by rfl) (.string digS) (.int .u64 (U : Int)) (by rfl) (by rfl) _ (HDR.out _) ?_)
      have hJ1 : J = I + 1 := by have := HI.out; have := HJ.out; omega
      have eI : 65 - I = (hexD U :: ws).length := by
        have := HJ.out
        rw [List.length_cons]
        omega
      have ho2 : Own (wr.setCell ⟨w.heap.size, I, none⟩ (.int .u8 ((hexD U).toNat : Int))) w.heap.size 152 1 (some ⟨w.heap.size, 0, none⟩) 65 65 ((List.replicate I (0 : UInt8) ++ (hexD U :: ws)).map b8) := by
        have h1 := ho.store hI65 (.int .u8 ((hexD U).toNat : Int))
        rw [at_row, hJ1, show (Value.int .u8 ((hexD U).toNat : Int)) = b8 (hexD U) from rfl, ← List.map_set, set_row] at h1
        exact h1
      have hb2 : Below w.heap.size w (wr.setCell ⟨w.heap.size, I, none⟩ (.int .u8 ((hexD U).toNat : Int))) := hb.setCell (Nat.le_refl _) _
      obtain ⟨w5, hw5⟩ : ∃ w5, wr.setCell ⟨w.heap.size, I, none⟩ (.int .u8 ((hexD U).toNat : Int)) = w5 := ⟨_, rfl⟩
      rw [hw5] at ho2 hb2 ⊢
      have htl := tail65 ho2.rd
      have hA := h.below hb2
      have hB5 := hb2.size
      have EI := Lib.hid eI
      obtain ⟨M, hM⟩ : ∃ M, 65 - I = M := ⟨_, rfl⟩
      rw [hM] at htl hsl
      have HM := Lib.hid hM
      have hM65 : M ≤ 65 := by omega
      clear hJ1 eI ho2 ho hb hfr hcp hidx hw5 hM hI65
      go_wp2_with (at_builtin; refine wpList_app rfl _ _ rfl eb hA rfl htl rfl (b8_one _) (by omega) (by unfold maxLen; omega) (by omega) ?_; intro A9 c9 w9 ho9 hg9 hq9)
      go_ret2
      have hbB : Below B w w9 := (hb2.mono hB).grown hg9 (by omega) (fun g hg => (hA.lt g hg).1)
      rw [← List.map_append] at ho9
      have e : (hex0 v).length = M := by rw [HEND.out, ← EI.out, HM.out]
      rw [e, HEND.out]
      exact ⟨A9, c9, rfl, ho9, hbB⟩

end Go.Proofs.YtckkmdigmecagaaGreatDoor.Hx

/-
  The library's AppendInt at base 16.
-/
namespace Go.Proofs.YtckkmdigmecagaaGreatDoor.Hx
open Go.RowKit

set_option maxRecDepth 20000 in
set_option maxHeartbeats 1000000 in
theorem AppendUint_16 {w : World} {B : Nat} {A : Option Addr} {n c : Nat} {l : List UInt8} (h : Own w B 5 1 A n c (l.map b8)) (hB : B ≤ w.heap.size) (hn : n ≤ 1073741824) (v : Nat) (hv0 : 0 < v) (hv : v < 4294967296) (ht : HTab w) :
    Calls Tryz.prog 68 #[.slice A n c, .int .u64 v, .int .i64 16] w fun e w' => ∃ A' c', e = .returned (.slice A' (n + (hex0 v).length) c') ∧ Own w' B 5 1 A' (n + (hex0 v).length) c' ((l ++ hex0 v).map b8) ∧ Below B w w' := by
  have HF := Lib.hid (formatBits_16 h hB hn v hv0 hv ht)
  clear h
  go_enter Tryz.func68, Tryz.ntmps68
  go_wp2_with fail
  refine HF.out.mono ?_
  rintro e w1 ⟨A1, c1, rfl, ho1, hb1⟩
  go_wp2_with fail
  go_ret
  exact ⟨A1, c1, rfl, ho1, hb1⟩
set_option maxRecDepth 20000 in
set_option maxHeartbeats 1000000 in
theorem AppendInt_16i {w : World} {B : Nat} {A : Option Addr} {n c : Nat} {l : List UInt8} (h : Own w B 5 1 A n c (l.map b8)) (hB : B ≤ w.heap.size) (hn : n ≤ 1073741824) (v : Nat) (hv0 : 0 < v) (hv : v < 4294967296) (ht : HTab w) :
    Calls Tryz.prog 55 #[.slice A n c, .int .i64 v, .int .i64 16] w fun e w' => ∃ A' c', e = .returned (.slice A' (n + (hex0 v).length) c') ∧ Own w' B 5 1 A' (n + (hex0 v).length) c' ((l ++ hex0 v).map b8) ∧ Below B w w' := by
  have HF := Lib.hid (AppendUint_16 h hB hn v hv0 hv ht)
  have e1 : IntKind.u64.wrap (v : Int) = v := IntWalk.u64_in _ (by omega)
  have e2 : decide ((v : Int) < 0) = false := decide_eq_false (by omega)
  clear h hv hv0 hn hB
  go_enter Tryz.func55, Tryz.ntmps55
  go_wp2_with fail
  refine HF.out.mono ?_
  rintro e w1 ⟨A1, c1, rfl, ho1, hb1⟩
  go_wp2_with fail
  go_ret
  exact ⟨A1, c1, rfl, ho1, hb1⟩
set_option maxRecDepth 20000 in
set_option maxHeartbeats 1000000 in
theorem AppendInt_16 {w : World} {B : Nat} {A : Option Addr} {n c : Nat} {l : List UInt8} (h : Own w B 5 1 A n c (l.map b8)) (hB : B ≤ w.heap.size) (hn : n ≤ 1073741824) (v : Nat) (hv0 : 0 < v) (hv : v < 4294967296) (ht : HTab w) :
    Calls Tryz.prog 46 #[.slice A n c, .int .i64 v, .int .i64 16] w fun e w' => ∃ A' c', e = .returned (.slice A' (n + (hex0 v).length) c') ∧ Own w' B 5 1 A' (n + (hex0 v).length) c' ((l ++ hex0 v).map b8) ∧ Below B w w' := by
  have HF := Lib.hid (AppendInt_16i h hB hn v hv0 hv ht)
  clear h
  go_enter Tryz.func46, Tryz.ntmps46
  go_wp2_with fail
  refine HF.out.mono ?_
  rintro e w1 ⟨A1, c1, rfl, ho1, hb1⟩
  go_wp2_with fail
  go_ret
  exact ⟨A1, c1, rfl, ho1, hb1⟩

end Go.Proofs.YtckkmdigmecagaaGreatDoor.Hx

/-
  Package chunk: Chunks.
-/
namespace Go.Proofs.YtckkmdigmecagaaGreatDoor.Hx
open Go.RowKit

theorem hex0_le8 (v : Nat) (h : v < 4294967296) : (hex0 v).length ≤ 8 := hex0_len 8 v (by omega)
theorem two_b8 : [Value.int .u8 13, Value.int .u8 10] = [(13 : UInt8), 10].map b8 := rfl
theorem five_b8 : [Value.int .u8 48, Value.int .u8 13, Value.int .u8 10, Value.int .u8 13, Value.int .u8 10] = [(48 : UInt8), 13, 10, 13, 10].map b8 := rfl
theorem chunksL_len (k : Nat) (hk : 1 ≤ k) : ∀ (f : Nat) (l : List UInt8), l.length < 4294967296 → (chunksL k f l).length ≤ 13 * l.length + 5
  | 0, l, _ => by simp [chunksL]
  | f + 1, l, hl => by
    by_cases h : l = []
    · subst h
      simp [chunksL]
    · have hp := List.length_pos_iff.2 h
      obtain ⟨m, hm⟩ : ∃ m, min k l.length = m := ⟨_, rfl⟩
      have h8 := hex0_le8 m (by omega)
      have ih := chunksL_len k hk f (l.drop m) (by rw [List.length_drop]; omega)
      rw [chunksL_step h, hm]
      simp only [List.length_append, List.length_cons, List.length_nil, List.length_take, List.length_drop] at ih ⊢
      omega

/-- How far the writing of chunks is: o is written, and from place k on it is to be written still. -/
def chunkAt (K n : Nat) (l : List UInt8) (k : Nat) (o : List UInt8) : Prop := ∃ f, n - k ≤ f ∧ chunksL K n l = o ++ chunksL K f (l.drop k)
theorem chunkAt_start (K n : Nat) (l : List UInt8) : chunkAt K n l 0 [] := ⟨n, by omega, rfl⟩
theorem chunkAt_step {K n : Nat} {l o : List UInt8} {k m : Nat} (h : chunkAt K n l k o) (hK : 1 ≤ K) (hl : l.length = n) (hk : k < n) (hm : min K (n - k) = m) :
    chunkAt K n l (k + m) (o ++ hex0 m ++ [13, 10] ++ (l.drop k).take m ++ [13, 10]) := by
  obtain ⟨f, hf, h⟩ := h
  obtain ⟨f', rfl⟩ : ∃ f', f = f' + 1 := ⟨f - 1, by omega⟩
  have hd : (l.drop k).length = n - k := by rw [List.length_drop, hl]
  have hne : l.drop k ≠ [] := by
    intro e
    rw [e] at hd
    simp at hd
    omega
  refine ⟨f', by omega, ?_⟩
  rw [h, chunksL_step hne, hd, hm, List.drop_drop]
  simp only [List.append_assoc]
theorem chunkAt_end {K n : Nat} {l o : List UInt8} {k : Nat} (h : chunkAt K n l k o) (hl : l.length = n) (hk : n ≤ k) : chunksL K n l = o ++ [48, 13, 10, 13, 10] := by
  obtain ⟨f, hf, h⟩ := h
  rw [h, List.drop_eq_nil_of_le (by omega), chunksL_nil]

theorem below_chain {a b c : World} (h1 : Below a.heap.size a b) (h2 : Below b.heap.size b c) : Below a.heap.size a c := h1.trans (h2.mono h1.size)

set_option maxRecDepth 20000 in
set_option maxHeartbeats 4000000 in
theorem Chunks_nat {w : World} (A : Option Addr) (n c : Nat) (l : List UInt8) (h : Rd w 1 A n c (l.map b8)) (hn : n ≤ 65536) (sz : Int) (K : Nat) (hK : (K : Int) = max sz 1) (ht : HTab w) :
    Calls Tryz.prog 33 #[.slice A n c, .int .i64 sz] w fun e w' => ∃ A' n' c', e = .returned (.slice A' n' c') ∧ Own w' w.heap.size 5 1 A' n' c' ((chunksL K n l).map b8) ∧ Below w.heap.size w w' := by
  have HH := Lib.hid h
  have HT := Lib.hid (fun W (hb : Below w.heap.size w W) => ht.below hb)
  have hln := Lib.hid h.lenb
  have hK1 : 1 ≤ K := by omega
  have hcase : sz = (K : Int) ∨ (sz < 1 ∧ (1 : Int) = (K : Int)) := by omega
  clear h ht hK
  have hfin : ∀ (wr : World) (L : Option Addr) (m d : Nat) (o : List UInt8), Own wr w.heap.size 5 1 L m d ((o ++ [48, 13, 10, 13, 10]).map b8) → chunksL K n l = o ++ [48, 13, 10, 13, 10] → Below w.heap.size w wr →
      ∃ A' n' c', Ending.returned (.slice L m d) = .returned (.slice A' n' c') ∧ Own wr w.heap.size 5 1 A' n' c' ((chunksL K n l).map b8) ∧ Below w.heap.size w wr := fun wr L m d o h1 h2 h3 => ⟨L, m, d, rfl, by rw [h2]; exact h1, h3⟩
  have Fin := Lib.hid hfin
  clear hfin
  rcases hcase with rfl | ⟨hs, hK2⟩
  all_goals
    try have HK2 := Lib.hid hK2
    try clear hK2
    go_enter Tryz.func33, Tryz.ntmps33
    go_wp2_with fail
    try rw [HK2.out]
    go_loopw [0, 5] (fun s o wr => ∃ (k : Nat) (A1 : Option Addr) (c1 : Nat) (L : Option Addr) (m d : Nat) (ol : List UInt8), k ≤ n ∧ s = .slice A1 (n - k) c1 ∧ o = .slice L m d ∧ Hid (Rd w 1 A1 (n - k) c1 ((l.drop k).map b8)) ∧ n - k ≤ c1 ∧ c1 ≤ maxLen ∧
      Own wr w.heap.size 5 1 L m d (ol.map b8) ∧ Hid (chunkAt K n l k ol) ∧ m ≤ 13 * k ∧ Below w.heap.size w wr) (fun s _ _ => match s with | .slice _ q _ => q | _ => 0)
    case atStart => exact ⟨0, A, c, none, 0, 0, [], by omega, rfl, rfl, by simpa [Hid] using HH.out, HH.out.le, HH.out.max, Own.nil_ _ _ _ _, chunkAt_start K n l, by omega, Below.refl _ _⟩
    case round =>
      obtain ⟨k, A1, c1, L, m, d, ol, hk, rfl, rfl, hR, hc1, hc2, ho, hC, hm, hb⟩ := hrel
      obtain ⟨q, hq⟩ : ∃ q, n - k = q := ⟨_, rfl⟩
      rw [hq] at hR hc1 ⊢
      have hqn : q ≤ n := by omega
      have HQ := Lib.hid hq
      have hsz := hb.size
      unfold maxLen at hc2
      clear hq
      by_cases hgo : 1 ≤ q
      · have hgo' : (0 : Int) < q := by omega
        obtain ⟨M, hM⟩ : ∃ M, min K q = M := ⟨_, rfl⟩
        have hM1 : 1 ≤ M := by omega
        have hMq : M ≤ q := by omega
        have hMn : M < 4294967296 := by omega
        have hmin : (K : Int) ≤ q ∧ M = K ∨ (q : Int) < K ∧ M = q := by omega
        have HM := Lib.hid hM
        have HA := Lib.hid (AppendInt_16 ho hsz (by omega) M hM1 hMn (HT.out _ hb))
        have h8 := hex0_le8 M hMn
        obtain ⟨X, hX⟩ : ∃ X, (hex0 M).length = X := ⟨_, rfl⟩
        rw [hX] at h8 HA
        have HX := Lib.hid hX
        obtain ⟨Q2, hQ2⟩ : ∃ Q2, q - M = Q2 := ⟨_, rfl⟩
        have hs1 := run_slice_h_rd (P := Tryz.prog) (A := A1) (n := q) (c := c1) eb (kh := .i64) M (H := (M : Int)) (by omega) (by omega)
        have hs2 := run_slice_l_rd (P := Tryz.prog) (A := A1) (n := q) (c := c1) eb (kl := .i64) M (L := (M : Int)) (by omega) (by omega)
        rw [hQ2] at hs2
        have HQ2 := Lib.hid hQ2
        clear hM hX hgo hQ2
        rcases hmin with ⟨hm1, rfl⟩ | ⟨hm1, rfl⟩
        all_goals
          go_wp2_with fail
          refine HA.out.mono ?_
          rintro e w1 ⟨A2, c2, rfl, ho2, hb2⟩
          have hb2' := hb.trans hb2
          go_wp2_with (first
            | (at_builtin; refine wpList_app rfl _ _ rfl eb (ho2.alloc _) rfl (Rd.lit _ [_, _] _ 2 rfl (by decide)) rfl (by simp [Value.oneCell']) (by omega) (by unfold maxLen; omega) (by have := hb2'.size; simp; omega) ?_; intro A3 c3 w3 ho3 hg3 hq3; rw [two_b8, ← List.map_append] at ho3; have hb3 := below_app hb2' (Nat.le_refl _) ho2 hg3)
            | (at_builtin; refine wpList_app rfl _ _ rfl eb ho3 rfl (Rd.take_ (hR.out.below hb3) hMq) rfl (b8_one _) (by omega) (by unfold maxLen; omega) (by have := hb3.size; omega) ?_; intro A4 c4 w4 ho4 hg4 hq4; rw [← List.map_append] at ho4; have hb4 := below_apps hb3 (Nat.le_refl _) ho3 hg4)
            | (at_builtin; refine wpList_app rfl _ _ rfl eb (ho4.alloc _) rfl (Rd.lit _ [_, _] _ 2 rfl (by decide)) rfl (by simp [Value.oneCell']) (by omega) (by unfold maxLen; omega) (by have := hb4.size; simp; omega) ?_; intro A5 c5 w5 ho5 hg5 hq5; rw [two_b8, ← List.map_append] at ho5; have hb5 := below_app hb4 (Nat.le_refl _) ho4 hg5))
          go_roundw
          case rel =>
            have hst := chunkAt_step hC.out hK1 hln.out (m := M) (by have := HQ.out; omega) (by rw [HQ.out]; exact HM.out)
            refine ⟨k + M, cutA A1 c1 M 1, c1 - M, A5, _, c5, _, by have := HQ.out; omega, ?_, rfl, ?_, ?_, by unfold maxLen; omega, ho5, hst, ?_, hb5⟩
            · have e1 : n - (k + M) = Q2 := by have := HQ.out; have := HQ2.out; omega
              rw [e1]
            · have e1 : n - (k + M) = n - k - M := by omega
              show Rd _ _ _ _ _ _
              rw [e1, HQ.out]
              have := Rd.drop_ hR.out (k := M) (by omega)
              rw [List.drop_drop] at this
              exact this
            · have := HQ.out
              omega
            · have := HQ.out
              omega
          case measure =>
            have := HQ2.out
            simp
            omega
      · obtain rfl : q = 0 := by omega
        have hend := chunkAt_end hC.out hln.out (by have := HQ.out; omega)
        have HE := Lib.hid hend
        clear hend hgo
        go_wp2_with (at_builtin; refine wpList_app rfl _ _ rfl eb (ho.alloc _) rfl (Rd.lit _ [_, _, _, _, _] _ 5 rfl (by decide)) rfl (by simp [Value.oneCell']) (by omega) (by unfold maxLen; omega) (by have := hb.size; simp; omega) ?_; intro A3 c3 w3 ho3 hg3 hq3; rw [five_b8, ← List.map_append] at ho3; have hb3 := below_app hb (Nat.le_refl _) ho hg3)
        go_ret
        exact Fin.out _ _ _ _ _ ho3 HE.out hb3
theorem Chunks_any {w : World} (A : Option Addr) (n c : Nat) (l : List UInt8) (h : Rd w 1 A n c (l.map b8)) (hn : n ≤ 65536) (sz : Int) (ht : HTab w) :
    Calls Tryz.prog 33 #[.slice A n c, .int .i64 sz] w fun e w' => ∃ A' n' c', e = .returned (.slice A' n' c') ∧ Own w' w.heap.size 5 1 A' n' c' ((chunksL (max sz 1).toNat n l).map b8) ∧ Below w.heap.size w w' :=
  Chunks_nat A n c l h hn sz _ (Int.toNat_of_nonneg (by omega)) ht

end Go.Proofs.YtckkmdigmecagaaGreatDoor.Hx
