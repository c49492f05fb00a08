/-
  Joined texts of this claim's author (each began as a text of its own; each says itself what it holds).
-/
import Derived.Test.YtckkmdigmecagaaDoorG01
import Derived.Lib.Split
import Derived.Test.YtckkmdigmecagaaDoorG00
import Derived.Lib.ConvBytes
import Derived.Lib.SlBytesConst
import Derived.Laws.Rows
import Derived.Shelf.Strings.SlTrimAscii
import Derived.Shelf.SlSorted.Search
import Derived.Laws.StructEq
import Derived.Stop.BytesEq
import Derived.ProofKit
import Derived.OpenShut
import Derived.ShutString
import Derived.ChangeOld
import Derived.Deep.Slices
import Derived.Lib.SmallJoins
import Derived.Deep.Strs
import Derived.Deep.SlicePairs
import Derived.OrdersHeld
import Derived.Deep.RegionHeld
import Derived.BigQuiet
import Derived.IntWalk
import Derived.Deep.CutBlock
set_option linter.unusedVariables false
set_option linter.unusedSimpArgs false

/-
  Strings that are lists of bytes: cuts, bytes, lengths.
-/
namespace Go.Proofs.YtckkmdigmecagaaDoor
open Go.RowKit

theorem size_mk (l : List UInt8) : (⟨l.toArray⟩ : ByteArray).size = l.length := by simp [ByteArray.size]
theorem run_str_l {P : Program} {t : TypeId} (ht : P.underlying t = some .string) (l : List UInt8) (k : Nat) (hk : k ≤ l.length) {kl : IntKind} (W : World) :
    (Instr.sliceAt t (.string ⟨l.toArray⟩) (some (.int kl (k : Int))) none none).run P W = .ok (.string ⟨(l.drop k).toArray⟩) W := by
  have hs := size_mk l
  rw [run_sliceAt_string (h := ht), run_slice_string_l (ht := ht) (h0 := by omega) (h1 := by rw [hs]; omega)]
  congr 2
  apply ByteArray.ext
  apply Array.ext'
  simp [ByteArray.data_extract, hs]
  exact List.take_of_length_le (by rw [List.length_drop]; omega)
theorem run_str_lh {P : Program} {t : TypeId} (ht : P.underlying t = some .string) (l : List UInt8) (i j : Nat) (hij : i ≤ j) (hj : j ≤ l.length) {kl kh : IntKind} {I J : Int} (hI : I = i) (hJ : J = j) (W : World) :
    (Instr.sliceAt t (.string ⟨l.toArray⟩) (some (.int kl I)) (some (.int kh J)) none).run P W = .ok (.string ⟨((l.drop i).take (j - i)).toArray⟩) W := by
  subst hI hJ
  have hs := size_mk l
  have hr : (Instr.slice t (.string ⟨l.toArray⟩) (some (.int kl (i : Int))) (some (.int kh (j : Int))) none).run P W = .ok (.string ((⟨l.toArray⟩ : ByteArray).extract i j)) W := by
    simp [Instr.slice, run_underlying ht, Instr.sliceBounds, run_sliceBound, sliced, hij, hs, hj, (by omega : (0 : Int) ≤ i), (by omega : (0 : Int) ≤ j)]
  rw [run_sliceAt_string (h := ht), hr]
  congr 2
  apply ByteArray.ext
  apply Array.ext'
  simp [ByteArray.data_extract, hs]
  try rw [List.drop_take]
theorem run_str_at {P : Program} {t : TypeId} (ht : P.underlying t = some .string) (l : List UInt8) (k : Nat) (x : UInt8) (hk : l[k]? = some x) {kl : IntKind} (W : World) :
    (Instr.index t (.string ⟨l.toArray⟩) (.int kl (k : Int))).run P W = .ok (.int .u8 (x.toNat : Int)) W := by
  obtain ⟨hl, hx⟩ := List.getElem?_eq_some_iff.1 hk
  have hs := size_mk l
  rw [run_index_string (P := P) W t _ kl (k : Int) ht, dif_pos ⟨by omega, by rw [hs]; omega⟩]
  have e : (k : Int).toNat = k := Int.toNat_natCast k
  simp only [e]
  congr 3
  rw [← hx]
  simp [ByteArray.getElem_eq_getElem_data]

end Go.Proofs.YtckkmdigmecagaaDoor

/-
  Lists of bytes cut at one byte: at the first, at all.
-/
namespace Go.Proofs.YtckkmdigmecagaaDoor
open Go.RowKit

/-- Ahead of the first c, behind it, whether it is there. -/
def cut1 (c : UInt8) : List UInt8 → List UInt8 × List UInt8 × Bool
  | [] => ([], [], false)
  | x :: l => if x = c then ([], l, true) else (x :: (cut1 c l).1, (cut1 c l).2)
/-- The pieces between all c. -/
def split1 (c : UInt8) : List UInt8 → List (List UInt8)
  | [] => [[]]
  | x :: l => if x = c then [] :: split1 c l else match split1 c l with
    | p :: ps => (x :: p) :: ps
    | [] => [[x]]
theorem split1_ne (c : UInt8) : ∀ l, split1 c l ≠ []
  | [] => by simp [split1]
  | x :: l => by
    rw [split1]
    split
    · simp
    · split <;> simp
theorem cut1_app (c : UInt8) : ∀ l, (cut1 c l).2.2 = true → l = (cut1 c l).1 ++ c :: (cut1 c l).2.1
  | [], h => by simp [cut1] at h
  | x :: l, h => by
    rw [cut1] at h ⊢
    split
    · rename_i hx
      rw [hx]
      rfl
    · rename_i hx
      rw [if_neg hx] at h
      rw [List.cons_append, ← cut1_app c l h]
theorem cut1_none (c : UInt8) : ∀ l, (cut1 c l).2.2 = false → (cut1 c l).1 = l ∧ (cut1 c l).2.1 = [] ∧ c ∉ l
  | [], _ => ⟨rfl, rfl, by simp⟩
  | x :: l, h => by
    rw [cut1] at h ⊢
    split
    · rename_i hx
      rw [if_pos hx] at h
      cases h
    · rename_i hx
      rw [if_neg hx] at h
      obtain ⟨h1, h2, h3⟩ := cut1_none c l h
      exact ⟨by rw [h1], h2, by simp [h3, Ne.symm hx]⟩
theorem cut1_mem (c : UInt8) : ∀ l, c ∉ (cut1 c l).1
  | [] => by simp [cut1]
  | x :: l => by
    rw [cut1]
    split
    · simp
    · rename_i hx
      have := cut1_mem c l
      simp [this, Ne.symm hx]
theorem cut1_le (c : UInt8) (l : List UInt8) : (cut1 c l).1.length ≤ l.length ∧ (cut1 c l).2.1.length ≤ l.length := by
  cases h : (cut1 c l).2.2
  · obtain ⟨h1, h2, _⟩ := cut1_none c l h
    rw [h1, h2]
    simp
  · have := congrArg List.length (cut1_app c l h)
    rw [List.length_append, List.length_cons] at this
    omega

theorem index_nil1 (c : UInt8) : Lib.index [] [c] = -1 := rfl
theorem index_cons1 (c x : UInt8) (l : List UInt8) : Lib.index (x :: l) [c] = if x = c then 0 else if Lib.index l [c] = -1 then -1 else Lib.index l [c] + 1 := by
  by_cases h : x = c
  · subst h
    rw [if_pos rfl]
    simp [Lib.index]
  · rw [if_neg h]
    have : (x == c) = false := by simpa using h
    have h2 : (c == x) = false := by simpa using Ne.symm h
    simp [Lib.index, this, h2, h, Ne.symm h]
theorem cut_one (c : UInt8) : ∀ l, Lib.cut l [c] = cut1 c l
  | [] => by
    unfold Lib.cut
    rw [index_nil1]
    rfl
  | x :: l => by
    have ih := cut_one c l
    have hge := Lib.index_ge l [c]
    unfold Lib.cut at ih ⊢
    rw [index_cons1, cut1]
    by_cases hx : x = c
    · rw [if_pos hx, if_pos hx]
      simp
    · rw [if_neg hx, if_neg hx]
      by_cases hi : Lib.index l [c] = -1
      · rw [if_pos hi, if_neg (by omega)]
        rw [if_neg (by omega)] at ih
        rw [← ih]
      · rw [if_neg hi, if_pos (by omega)]
        rw [if_pos (by omega)] at ih
        rw [← ih]
        obtain ⟨k, hk⟩ : ∃ k : Nat, Lib.index l [c] = k := ⟨(Lib.index l [c]).toNat, by omega⟩
        rw [hk]
        have e : ((k : Int) + 1).toNat = k + 1 := by omega
        rw [e]
        simp [Nat.add_right_comm]
theorem split1_cut (c : UInt8) : ∀ l, split1 c l = if (cut1 c l).2.2 then (cut1 c l).1 :: split1 c (cut1 c l).2.1 else [l]
  | [] => rfl
  | x :: l => by
    rw [split1, cut1]
    by_cases hx : x = c
    · rw [if_pos hx, if_pos hx]
      rfl
    · rw [if_neg hx, if_neg hx]
      dsimp only
      have ih := split1_cut c l
      split at ih
      · rename_i h
        rw [ih, if_pos h]
      · rename_i h
        rw [ih, if_neg h]
/-- What the library's Split makes. -/
theorem splitK_one (c : UInt8) : ∀ (k : Nat) (l : List UInt8), Lib.count l [c] = k → Lib.splitK [c] 0 k l = split1 c l
  | 0, l, h => by
    rw [split1_cut]
    have hm : Lib.index l [c] = -1 := by
      by_cases hi : Lib.index l [c] = -1
      · exact hi
      · have hge := Lib.index_ge l [c]
        obtain ⟨i, hi2⟩ : ∃ i : Nat, Lib.index l [c] = i := ⟨(Lib.index l [c]).toNat, by omega⟩
        have := Lib.count_hit (by simp) hi2
        omega
    have hc := cut_one c l
    unfold Lib.cut at hc
    rw [if_neg (by omega)] at hc
    rw [← hc]
    rfl
  | k + 1, l, h => by
    have hge := Lib.index_ge l [c]
    have hne : Lib.index l [c] ≠ -1 := by
      intro hm
      rw [Lib.count_miss hm] at h
      omega
    obtain ⟨i, hi⟩ : ∃ i : Nat, Lib.index l [c] = i := ⟨(Lib.index l [c]).toNat, by omega⟩
    have hc := cut_one c l
    unfold Lib.cut at hc
    rw [if_pos (by omega), hi] at hc
    have h2 := Lib.count_hit (s := l) (sub := [c]) (by simp) hi
    rw [split1_cut, ← hc, Lib.splitK, if_neg (by rw [hi]; simp), hi]
    simp only [Int.toNat_natCast, Nat.add_zero, List.length_cons, List.length_nil, Nat.zero_add, if_true] at h2 ⊢
    rw [splitK_one c k _ (by omega)]

end Go.Proofs.YtckkmdigmecagaaDoor

/-
  Strings and bytes: []byte(s) as a step of a walk; a block known whole, stored whole; operations that are guarded.
-/
namespace Go.Proofs.YtckkmdigmecagaaDoor
open Go.RowKit

theorem Rd.drop_ {w : World} {A : Option Addr} {n c : Nat} {l : List UInt8} (h : Rd w 1 A n c (l.map b8)) {k : Nat} (hk : k ≤ n) : Rd w 1 (cutA A c k 1) (n - k) (c - k) ((l.drop k).map b8) := by
  have h1 := h.cut (lo := k) (hi := n) hk (Nat.le_refl _)
  rw [Nat.mul_one, Nat.mul_one, ← List.map_drop, List.take_of_length_le (by have := h.lenb; simp; omega)] at h1
  exact h1
theorem Rd.take_ {w : World} {A : Option Addr} {n c : Nat} {l : List UInt8} (h : Rd w 1 A n c (l.map b8)) {k : Nat} (hk : k ≤ n) : Rd w 1 A k c ((l.take k).map b8) := by
  have := h.lenb
  refine ⟨by simp; omega, Nat.le_trans hk h.le, h.max, h.nil, fun j u hu => h.cell j u ?_⟩
  rw [List.map_take, List.getElem?_take] at hu
  split at hu
  · exact hu
  · cases hu

section
variable {P : Program} {w : World} {e src dst : TypeId}
variable {ops : Array Oper} {rest : List Oper} {o : Oper} {a : Act} {Q : Exit → Act → World → Prop}

theorem grownCap_ge' (w : World) (n : Nat) (e : TypeId) : n ≤ grownCap w n 0 e := grownCap_ge w n 0 e
theorem bytesWorld_below (w : World) (e : TypeId) (s : ByteArray) : Below w.heap.size w (Lib.bytesWorld w e s) :=
  ⟨rfl, rfl, rfl, by rw [Lib.bytesWorld_size]; omega, fun k hk => Lib.bytesWorld_at_old w e s k hk⟩
theorem bytesWorld_own (w : World) (e : TypeId) (s : ByteArray) (hs : s.size ≤ 1073741824) : Own (Lib.bytesWorld w e s) w.heap.size e 1 (some ⟨w.heap.size, 0, none⟩) s.size (grownCap w s.size 0 e) (s.data.toList.map b8) := by
  have hge := grownCap_ge w s.size 0 e
  have hnew := Lib.bytesWorld_at_new w e s
  have hsz : (Lib.bytesCells w e s).size = grownCap w s.size 0 e := by
    have : s.data.size = s.size := rfl
    simp only [Lib.bytesCells, Array.size_append, Array.size_map, Array.size_replicate, this]
    omega
  have hm : grownCap w s.size 0 e ≤ maxLen := grownCap_le_maxLen w s.size 0 e (by unfold maxLen; omega)
  refine ⟨⟨by simp, hge, hm, (fun h => by cases h), fun j u hu => ?_⟩, fun a ha => ?_⟩
  · rw [at_some]
    have e1 : (⟨w.heap.size, 0, none⟩ : Addr).add j = ⟨w.heap.size, j, none⟩ := by unfold Addr.add; split <;> simp_all
    have hj : j < s.size := by
      have := (List.getElem?_eq_some_iff.1 hu).1
      simpa using this
    rw [e1, Lib.bytesWorld_cell w e s j hj]
    rw [List.getElem?_map] at hu
    have hjl : j < s.data.toList.length := by simpa using hj
    rw [List.getElem?_eq_getElem hjl] at hu
    simp only [Option.map_some, Option.some.injEq] at hu
    subst hu
    simp only [List.getD, List.getElem?_eq_getElem hjl, Option.getD_some]
    rfl
  · obtain rfl := Option.some.inj ha
    exact ⟨rfl, Nat.le_refl _, _, _, hnew, by simp only [hsz]; omega, fun j _ hj => by
      dsimp only at hj
      simp only [hsz]
      omega⟩

/-- []byte(s). -/
theorem wpList_s2b (hgd : o.guard = none) (x : Operand) (ho : o.op = .convert src dst x) (hs : P.underlying src = some .string) (hd : P.underlying dst = some (.slice e)) (he : P.underlying e = some (.int .u8))
    (s : ByteArray) (hx : a.eval x = .string s) (hsz : s.size ≤ 1073741824)
    (k : ∀ c' w', Own w' w.heap.size e 1 (some ⟨w.heap.size, 0, none⟩) s.size c' (s.data.toList.map b8) → Below w.heap.size w w' → wpList P ops Q rest (a.put o.dst (.slice (some ⟨w.heap.size, 0, none⟩) s.size c')) w') :
    wpList P ops Q (o :: rest) a w := by
  refine wpList_plain hgd fun K hK => ?_
  have hrun := Lib.run_convert_string_bytes w src dst e s hs hd he
  unfold Oper.wp execOp
  simp only [ho, hx, hrun, Sem.run_bind, Result.andThen_ok, Sem.run_pure]
  exact hK _ _ (k _ _ (bytesWorld_own w e s hsz) (bytesWorld_below w e s))

/-- An operation that is reached, guarded or not. -/
theorem wpList_taken (hw : Region.wanted o (yielded ops a.tmps) = true)
    (h : ∀ K : Act → World → Prop, (∀ a w, wpList P ops Q rest a w → K a w) → o.wp P a w K Q) : wpList P ops Q (o :: rest) a w :=
  wpList_step fun K hK => by simp only [hw, if_true]; exact h K hK
/-- A block known whole, loaded. -/
theorem wpList_load_all (hw : Region.wanted o (yielded ops a.tmps) = true) (ty : TypeId) (x : Operand) (ho : o.op = .load ty x)
    (g : Nat) (hx : a.eval x = .pointer (some ⟨g, 0, none⟩)) (t : TypeId) (cs : Array Value) (fr : Nat × Nat) (d : TypeDesc) (hg : w.heap[g]? = some (.cells cs t fr))
    (hu : P.underlying ty = some d) (hd : (match d with | .struct _ | .array _ _ => true | _ => false) = true) (hi : (P.info? ty).map (·.size) = some cs.size)
    (h : wpList P ops Q rest (a.put o.dst (.agg cs)) w) : wpList P ops Q (o :: rest) a w :=
  wpList_taken hw fun _ hK => wp_load_row ty x ho g hx t cs fr d hg hu hd hi (hK _ _ h)

theorem sizeOf_run {P : Program} {ty : TypeId} {n : Nat} (hi : (P.info? ty).map (·.size) = some n) (W : World) : (sizeOf ty).run P W = .ok n W := by
  cases h : P.info? ty with
  | none => simp [h] at hi
  | some i =>
    simp [h] at hi
    simp [sizeOf, typeInfo, h, hi]
/-- A whole value stored over a block of its size. -/
theorem run_storeVar_all {ty t : TypeId} {g : Nat} {cs vs : Array Value} (hg : w.heap[g]? = some (.cells cs t (0, 0))) (hi : (P.info? ty).map (·.size) = some vs.size) (hs : cs.size = vs.size) (h1 : ∀ v ∈ vs.toList, v.oneCell' = true) :
    (storeVar ty ⟨g, 0, none⟩ (.agg vs)).run P w = .ok () (w.setRow g vs) := by
  have h := run_storeCells_fr P g 0 t (0, 0) vs.toList 0 cs w hg (by simp [hs]) (fun j _ _ => by omega) h1
  have e : (cs.toList.take (0 + 0) ++ vs.toList ++ cs.toList.drop (0 + 0 + vs.toList.length)).toArray = vs := by
    have : cs.toList.drop vs.size = [] := List.drop_eq_nil_of_le (by simp [hs])
    simp [this]
  rw [e] at h
  simp only [storeVar, Sem.run_bind, sizeOf_run hi, Result.andThen_ok, Value.cells, ne_eq, not_true_eq_false, if_false, h]
theorem wpList_store_all (hw : Region.wanted o (yielded ops a.tmps) = true) (ty : TypeId) (x y : Operand) (ho : o.op = .store ty x y) (g : Nat) (hx : a.eval x = .pointer (some ⟨g, 0, none⟩)) (t : TypeId) (cs vs : Array Value) (hy : a.eval y = .agg vs) (hg : w.heap[g]? = some (.cells cs t (0, 0)))
    (hi : (P.info? ty).map (·.size) = some vs.size) (hs : cs.size = vs.size) (h1 : ∀ v ∈ vs.toList, v.oneCell' = true)
    (k : ∀ w', w'.heap[g]? = some (.cells vs t (0, 0)) → w.grownBy w' (some g) → w'.heap.size = w.heap.size → wpList P ops Q rest (a.put o.dst undef) w') : wpList P ops Q (o :: rest) a w := by
  refine wpList_taken hw fun K hK => ?_
  have hrun := run_storeVar_all (P := P) (ty := ty) hg hi hs h1
  unfold Oper.wp execOp
  simp only [ho, hx, hy, Instr.storeAt, Instr.sureAddr, Sem.run_bind, Sem.run_pure, Result.andThen_ok, hrun]
  exact hK _ _ (k _ (setRow_heap w g cs vs t (0, 0) hg) ⟨rfl, rfl, rfl, by simp, fun q _ hq => setRow_other w g q _ (fun e => hq (by rw [e]))⟩ (by simp))
theorem wp_store_all {K : Act → World → Prop} (ty : TypeId) (x y : Operand) (ho : o.op = .store ty x y) (g : Nat) (hx : a.eval x = .pointer (some ⟨g, 0, none⟩)) (t : TypeId) (cs vs : Array Value) (hy : a.eval y = .agg vs) (hg : w.heap[g]? = some (.cells cs t (0, 0)))
    (hi : (P.info? ty).map (·.size) = some vs.size) (hs : cs.size = vs.size) (h1 : ∀ v ∈ vs.toList, v.oneCell' = true)
    (k : ∀ w', w'.heap[g]? = some (.cells vs t (0, 0)) → w.grownBy w' (some g) → w'.heap.size = w.heap.size → K (a.put o.dst undef) w') : o.wp P a w K Q := by
  have hrun := run_storeVar_all (P := P) (ty := ty) hg hi hs h1
  unfold Oper.wp execOp
  simp only [ho, hx, hy, Instr.storeAt, Instr.sureAddr, Sem.run_bind, Sem.run_pure, Result.andThen_ok, hrun]
  exact k _ (setRow_heap w g cs vs t (0, 0) hg) ⟨rfl, rfl, rfl, by simp, fun q _ hq => setRow_other w g q _ (fun e => hq (by rw [e]))⟩ (by simp)
theorem wp_alloc_zero {K : Act → World → Prop} (ty : TypeId) (ho : o.op = .alloc ty) (z : Array Value) (hz : (P.info? ty).map (·.zero) = some (some (.agg z)))
    (k : ∀ w', w'.heap[w.heap.size]? = some (.cells z ty (0, 0)) → Below w.heap.size w w' → w'.heap.size = w.heap.size + 1 → K (a.put o.dst (.pointer (some ⟨w.heap.size, 0, none⟩))) w') : o.wp P a w K Q := by
  have hrun : (Instr.alloc ty true (.tuple #[])).run P w = .ok (.pointer (some ⟨w.heap.size, 0, none⟩)) (w.alloc (.cells z ty)) := by
    cases h : P.info? ty with
    | none => simp [h] at hz
    | some i =>
      simp [h] at hz
      simp [Instr.alloc, zeroValue, typeInfo, h, hz, newVar, newRow, Value.cells]
  unfold Oper.wp execOp
  simp only [ho, Sem.run_bind, Sem.run_pure, Result.andThen_ok, hrun]
  exact k _ (by show (w.heap.push _)[w.heap.size]? = _; simp) ((Below.refl _ _).alloc (Nat.le_refl _) _) (by simp)
/-- A new variable of a kind whose zero value is known. -/
theorem wpList_alloc_zero (hw : Region.wanted o (yielded ops a.tmps) = true) (ty : TypeId) (ho : o.op = .alloc ty) (z : Array Value) (hz : (P.info? ty).map (·.zero) = some (some (.agg z)))
    (k : ∀ w', w'.heap[w.heap.size]? = some (.cells z ty (0, 0)) → Below w.heap.size w w' → w'.heap.size = w.heap.size + 1 → wpList P ops Q rest (a.put o.dst (.pointer (some ⟨w.heap.size, 0, none⟩))) w') : wpList P ops Q (o :: rest) a w := by
  refine wpList_taken hw fun K hK => ?_
  have hrun : (Instr.alloc ty true (.tuple #[])).run P w = .ok (.pointer (some ⟨w.heap.size, 0, none⟩)) (w.alloc (.cells z ty)) := by
    cases h : P.info? ty with
    | none => simp [h] at hz
    | some i =>
      simp [h] at hz
      simp [Instr.alloc, zeroValue, typeInfo, h, hz, newVar, newRow, Value.cells]
  unfold Oper.wp execOp
  simp only [ho, Sem.run_bind, Sem.run_pure, Result.andThen_ok, hrun]
  exact hK _ _ (k _ (by show (w.heap.push _)[w.heap.size]? = _; simp) ((Below.refl _ _).alloc (Nat.le_refl _) _) (by simp))
theorem wpList_box (hw : Region.wanted o (yielded ops a.tmps) = true) (ty : TypeId) (x : Operand) (ho : o.op = .box ty x) (cs : Array Value) (hx : a.eval x = .agg cs)
    (k : ∀ w', w'.heap[w.heap.size]? = some (.cells cs ty (0, 0)) → Below w.heap.size w w' → w'.heap.size = w.heap.size + 1 → wpList P ops Q rest (a.put o.dst (.pointer (some ⟨w.heap.size, 0, none⟩))) w') : wpList P ops Q (o :: rest) a w := by
  refine wpList_taken hw fun K hK => ?_
  have hrun : (Instr.box ty (.agg cs)).run P w = .ok (.pointer (some ⟨w.heap.size, 0, none⟩)) (w.alloc (.cells cs ty)) := by simp [Instr.box, newVar, newRow, Value.cells]
  unfold Oper.wp execOp
  simp only [ho, hx, Sem.run_bind, Sem.run_pure, Result.andThen_ok, hrun]
  exact hK _ _ (k _ (by show (w.heap.push _)[w.heap.size]? = _; simp) ((Below.refl _ _).alloc (Nat.le_refl _) _) (by simp))
/-- A load, a build, whose run is known. -/
theorem wpList_load_run (hw : Region.wanted o (yielded ops a.tmps) = true) (ty : TypeId) (x : Operand) (ho : o.op = .load ty x) (ad : Addr) (hx : a.eval x = .pointer (some ad)) (v : Value) (hrun : (loadVar ty ad).run P w = .ok v w)
    (k : wpList P ops Q rest (a.put o.dst v) w) : wpList P ops Q (o :: rest) a w := by
  refine wpList_taken hw fun K hK => ?_
  unfold Oper.wp execOp
  simp only [ho, hx, Instr.loadAt, Instr.sureAddr, Sem.run_bind, Sem.run_pure, Result.andThen_ok, hrun]
  exact hK _ _ k
theorem wpList_build_run (hw : Region.wanted o (yielded ops a.tmps) = true) (ty : TypeId) (parts : Array (Nat × Operand)) (ho : o.op = .build ty parts) (vs : Array (Nat × Value)) (hx : (parts.map fun (i, x) => (i, a.eval x)) = vs) (v : Value) (hrun : (Instr.build ty vs).run P w = .ok v w)
    (k : wpList P ops Q rest (a.put o.dst v) w) : wpList P ops Q (o :: rest) a w := by
  refine wpList_taken hw fun K hK => ?_
  unfold Oper.wp execOp
  simp only [ho, hx, Sem.run_bind, Sem.run_pure, Result.andThen_ok, hrun]
  exact hK _ _ k
/-- An array of one-cell elements, loaded out of a row. -/
theorem run_loadVar_arr {ty e : TypeId} {n c : Nat} {ad : Addr} {xs : List Value} (hu : P.underlying ty = some (.array n e)) (hi : (P.info? ty).map (·.size) = some n) (h : Rd w 1 (some ad) n c xs) : (loadVar ty ad).run P w = .ok (.agg xs.toArray) w := by
  have hl := run_loadCells_list (P := P) w ad xs (fun j v hv => by have := h.cell j v hv; rwa [at_some] at this)
  have hxn : xs.length = n := by simpa using h.len
  rw [hxn] at hl
  simp [loadVar, isAgg, run_underlying hu, sizeOf_run hi, hl]
end

end Go.Proofs.YtckkmdigmecagaaDoor

/-
  The library's Cut and Split in plain words.
-/
namespace Go.Proofs.YtckkmdigmecagaaDoor
open Go.RowKit

/-- The library's variable holds some integer. -/
def Mx (w : World) : Prop := ∃ m, w.cell? ⟨0, 0, none⟩ = some (.int .i64 m)
theorem Mx.below {w w' : World} (h : Mx w) (hb : Below w.heap.size w w') : Mx w' := by
  obtain ⟨m, hm⟩ := h
  have hlt := World.block_lt_of_cell? w _ hm
  exact ⟨m, by rw [← hm]; exact World.cell?_of_block (hb.block 0 hlt)⟩
theorem Cut_any (c : UInt8) (s : List UInt8) (hs : s.length < 4294967281) (w : World) (hm : Mx w) :
    Calls Tryd.prog 31 #[.string ⟨s.toArray⟩, .string ⟨#[c]⟩] w fun e w' => e = .returned (.tuple #[.string ⟨(cut1 c s).1.toArray⟩, .string ⟨(cut1 c s).2.1.toArray⟩, .bool (cut1 c s).2.2]) ∧ Below w.heap.size w w' := by
  obtain ⟨m, hm⟩ := hm
  refine (Tryd.strings_Cut ⟨s.toArray⟩ ⟨#[c]⟩ m w (by rw [size_mk]; exact hs) hm).mono ?_
  rintro e w' ⟨rfl, q, rfl⟩
  refine ⟨?_, below_drewN (Below.refl _ _) q⟩
  have e1 : Lib.cut (⟨s.toArray⟩ : ByteArray).data.toList (⟨#[c]⟩ : ByteArray).data.toList = cut1 c s := cut_one c s
  rw [e1]
theorem Split_any (c : UInt8) (s : List UInt8) (hs : s.length < 4294967281) (w : World) (hm : Mx w) :
    Calls Tryd.prog 50 #[.string ⟨s.toArray⟩, .string ⟨#[c]⟩] w fun e w' => e = .returned (.slice (some ⟨w.heap.size, 0, none⟩) (split1 c s).length (split1 c s).length) ∧ w' = w.alloc (.cells ((split1 c s).map fun p => Value.string ⟨p.toArray⟩).toArray 9) := by
  obtain ⟨m, hm⟩ := hm
  refine (Tryd.strings_Split ⟨s.toArray⟩ ⟨#[c]⟩ m w (by rw [size_mk]; exact hs) hm (show 1 ≤ (⟨#[c]⟩ : ByteArray).size from Nat.le_refl 1)).mono ?_
  rintro e w' ⟨rfl, rfl⟩
  have h1 : (Lib.splitB ⟨#[c]⟩ 0 (Lib.countB ⟨s.toArray⟩ ⟨#[c]⟩) ⟨s.toArray⟩).map (·.data.toList) = split1 c s := by
    rw [Lib.splitB_data]
    exact splitK_one c _ s rfl
  have h2 : (Lib.splitB ⟨#[c]⟩ 0 (Lib.countB ⟨s.toArray⟩ ⟨#[c]⟩) ⟨s.toArray⟩).length = Lib.countB ⟨s.toArray⟩ ⟨#[c]⟩ + 1 := Lib.splitB_all _ (show 1 ≤ (⟨#[c]⟩ : ByteArray).size from Nat.le_refl 1) 0 _ _ rfl
  have h3 : (split1 c s).length = Lib.countB ⟨s.toArray⟩ ⟨#[c]⟩ + 1 := by rw [← h1, List.length_map, h2]
  have h4 : (Lib.splitB ⟨#[c]⟩ 0 (Lib.countB ⟨s.toArray⟩ ⟨#[c]⟩) ⟨s.toArray⟩).map Value.string = (split1 c s).map fun p => Value.string ⟨p.toArray⟩ := by
    rw [← h1, List.map_map]
    rfl
  rw [h3, h4]
  exact ⟨rfl, rfl⟩

end Go.Proofs.YtckkmdigmecagaaDoor

/-
  Package field: the library's Cut, Trim, Split in plain words; letter.
-/
namespace Go.Proofs.YtckkmdigmecagaaDoor.Fl
open Go.RowKit

def blk2 : List UInt8 := [32, 9]
/-- Without blanks at both ends. -/
def trimL (s : List UInt8) : List UInt8 := Lib.trimS s blk2
theorem Trim_any (s : List UInt8) (hs : s.length ≤ 1073741824) (w : World) :
    Calls Tryd.prog 41 #[.string ⟨s.toArray⟩, .string ⟨#[32, 9]⟩] w fun e w' => e = .returned (.string ⟨(trimL s).toArray⟩) ∧ Below w.heap.size w w' :=
  Any.strings_Trim_laid Tryd.lays160 (by kernel_rfl) ⟨s.toArray⟩ ⟨#[32, 9]⟩ w (by rw [size_mk]; omega) (by decide) (ascii_of_all (by decide))
/-! ### letter -/
def isL (x : UInt8) : Bool := (decide (97 ≤ x.toNat) && decide (x.toNat ≤ 122)) || (decide (65 ≤ x.toNat) && decide (x.toNat ≤ 90))
theorem or32' : ∀ c : Fin 256, c.1 ||| 32 = if c.1 / 32 % 2 = 1 then c.1 else c.1 + 32 := by decide +kernel
theorem or32 (c : Nat) (h : c < 256) : bits .or .u8 (c : Int) 32 = ((c ||| 32 : Nat) : Int) := u8_or_nat c 32 h (by omega)
theorem letter_fin : ∀ c : Fin 256, (decide (97 ≤ c.1 ||| 32) && decide (c.1 ||| 32 ≤ 122) && decide (65 ≤ c.1)) = ((decide (97 ≤ c.1) && decide (c.1 ≤ 122)) || (decide (65 ≤ c.1) && decide (c.1 ≤ 90))) := by decide +kernel
set_option maxHeartbeats 1000000 in
theorem letter_any (x : UInt8) (w : World) : Calls Tryd.prog 39 #[.int .u8 (x.toNat : Int)] w fun e w' => e = .returned (.bool (isL x)) ∧ w = w' := by
  have hx := x.toNat_lt
  have hor := or32 x.toNat hx
  have hf := letter_fin ⟨x.toNat, hx⟩
  dsimp only at hf
  have hL : isL x = (decide (97 ≤ x.toNat ||| 32) && decide (x.toNat ||| 32 ≤ 122) && decide (65 ≤ x.toNat)) := by unfold isL; rw [hf]
  obtain ⟨y, hy⟩ : ∃ y, x.toNat ||| 32 = y := ⟨_, rfl⟩
  obtain ⟨z, hz⟩ : ∃ z, x.toNat = z := ⟨_, rfl⟩
  rw [hy] at hor hL
  rw [hz] at hor hL ⊢
  have HL := Lib.hid hL
  clear hf hL hy hz hx
  by_cases h1 : (97 : Int) ≤ y
  · by_cases h2 : (y : Int) ≤ 122
    · by_cases h3 : (65 : Int) ≤ z
      · have e : isL x = true := by rw [HL.out]; simp; omega
        rw [e]
        clear e
        go_enter Tryd.func39, Tryd.ntmps39
        go_wp2_with fail
        go_ret
        exact ⟨rfl, rfl⟩
      · have e : isL x = false := by rw [HL.out]; simp; omega
        rw [e]
        have h3' : decide ((65 : Int) ≤ z) = false := decide_eq_false h3
        clear e h3
        go_enter Tryd.func39, Tryd.ntmps39
        go_wp2_with fail
        go_ret
        exact ⟨rfl, rfl⟩
    · have e : isL x = false := by rw [HL.out]; simp; omega
      rw [e]
      have h2' : decide ((y : Int) ≤ 122) = false := decide_eq_false h2
      clear e h2
      go_enter Tryd.func39, Tryd.ntmps39
      go_wp2_with fail
      go_ret
      exact ⟨rfl, rfl⟩
  · have e : isL x = false := by rw [HL.out]; simp; omega
    rw [e]
    have h1' : decide ((97 : Int) ≤ y) = false := decide_eq_false h1
    clear e h1
    go_enter Tryd.func39, Tryd.ntmps39
    go_wp2_with fail
    go_ret
    exact ⟨rfl, rfl⟩

end Go.Proofs.YtckkmdigmecagaaDoor.Fl

/-
  Package field: small letters; blanks, in plain words.
-/
namespace Go.Proofs.YtckkmdigmecagaaDoor.Fl
open Go.RowKit

def lowB (x : UInt8) : UInt8 := if isL x then UInt8.ofNat (x.toNat ||| 32) else x
def smallL (s : List UInt8) : List UInt8 := s.map lowB
theorem low_fin : ∀ c : Fin 256, (c.1 ||| 32) < 256 ∧ (65 ≤ c.1 → c.1 ≤ 90 → c.1 ||| 32 = c.1 + 32) ∧ (97 ≤ c.1 → c.1 ≤ 122 → c.1 ||| 32 = c.1) := by decide +kernel
theorem low_yes {x : UInt8} (h : isL x = true) : Value.int .u8 (((x.toNat ||| 32 : Nat)) : Int) = b8 (lowB x) := by
  have h1 := (low_fin ⟨x.toNat, x.toNat_lt⟩).1
  dsimp only at h1
  unfold lowB
  rw [if_pos h, b8_ofNat, Nat.mod_eq_of_lt h1]
theorem low_no {x : UInt8} (h : isL x = false) : lowB x = x := by
  unfold lowB
  rw [if_neg (by rw [h]; decide)]
theorem set_mid (P R : List UInt8) (x y : UInt8) : (P ++ x :: R).set P.length y = P ++ y :: R := by
  rw [List.set_append_right _ _ (Nat.le_refl _), Nat.sub_self]
  rfl
theorem small_mid {s : List UInt8} {k : Nat} {x : UInt8} (h : s[k]? = some x) : smallL (s.take k) ++ s.drop k = smallL (s.take k) ++ x :: s.drop (k + 1) ∧ smallL (s.take (k + 1)) ++ s.drop (k + 1) = smallL (s.take k) ++ lowB x :: s.drop (k + 1) := by
  obtain ⟨hk, hx⟩ := List.getElem?_eq_some_iff.1 h
  refine ⟨by rw [List.drop_eq_getElem_cons hk, hx], ?_⟩
  unfold smallL
  rw [List.take_succ_eq_append_getElem hk, hx, List.map_append, List.append_assoc]
  rfl

set_option maxRecDepth 20000 in
set_option maxHeartbeats 4000000 in
theorem small_any (s : List UInt8) (hs : s.length ≤ 1073741824) (w : World) :
    Calls Tryd.prog 40 #[.string ⟨s.toArray⟩] w fun e w' => e = .returned (.string ⟨(smallL s).toArray⟩) ∧ Below w.heap.size w w' := by
  obtain ⟨n, hn⟩ : ∃ n, s.length = n := ⟨_, rfl⟩
  have HN := Lib.hid hn
  have hn1 : n ≤ 1073741824 := by omega
  clear hn hs
  go_enter Tryd.func40, Tryd.ntmps40
  go_wp2_with (refine wpList_s2b rfl _ rfl Tryd.underlying9 Tryd.underlying22 Tryd.underlying5 ⟨s.toArray⟩ rfl (by rw [size_mk, HN.out]; exact hn1) ?_; intro c1 w1 ho1 hb1; rw [size_mk, HN.out] at ho1 ⊢; generalize (some (⟨w.heap.size, 0, none⟩ : Addr)) = A1 at ho1 ⊢)
  go_loopw [10] (fun i wr => ∃ k : Nat, k ≤ n ∧ i = .int .i64 k ∧ Own wr w.heap.size 5 1 A1 n c1 ((smallL (s.take k) ++ s.drop k).map b8) ∧ Below w.heap.size w wr) (fun i _ => n - (intOf i).toNat)
  case atStart => exact ⟨0, by omega, rfl, by simpa [smallL] using ho1, hb1⟩
  case round =>
    obtain ⟨k, hk, rfl, ho, hb⟩ := hrel
    clear ho1 hb1
    by_cases hkn : k < n
    · have hx : s[k]? = some (s[k]'(by rw [HN.out]; exact hkn)) := List.getElem?_eq_getElem _
      generalize s[k]'(by rw [HN.out]; exact hkn) = x at hx
      obtain ⟨hm1, hm2⟩ := small_mid hx
      have hPl : (smallL (s.take k)).length = k := by unfold smallL; rw [List.length_map, List.length_take, HN.out]; omega
      have hcell := ho.rd.cell k (b8 x) (by
        rw [hm1, List.map_append, List.getElem?_append_right (by rw [List.length_map, hPl]; exact Nat.le_refl _), List.length_map, hPl, Nat.sub_self]
        rfl)
      have hidx := run_index_rd (P := Tryd.prog) (A := A1) (n := n) (c := c1) eb ho.rd.nil ho.rd.le k hkn
      rw [Nat.mul_one] at hidx
      have hle := ho.rd.le
      have hfr := ho.free (k := k) (by omega)
      have hst := ho.store (k := k) (by omega) (b8 (lowB x))
      have hbs := below_store hb ho (k := k) (by omega) (b8 (lowB x))
      have hst2 : Own (wr.setCell (at_ A1 k) (b8 (lowB x))) w.heap.size 5 1 A1 n c1 ((smallL (s.take (k + 1)) ++ s.drop (k + 1)).map b8) := by
        rw [hm2, ← set_mid _ _ x, hPl, List.map_set, ← hm1]
        exact hst
      have hkeep : lowB x = x → Own wr w.heap.size 5 1 A1 n c1 ((smallL (s.take (k + 1)) ++ s.drop (k + 1)).map b8) := fun h => by
        rw [hm2, h, ← hm1]
        exact ho
      have HL := Lib.hid (fun W => letter_any x W)
      have hor := or32 x.toNat x.toNat_lt
      have hk' : (k : Int) < n := by omega
      have HST := Lib.hid hst2
      have HBS := Lib.hid hbs
      have HKE := Lib.hid hkeep
      unfold b8 at hcell
      clear hx hm1 hm2 hPl hst hst2 hbs hkeep hkn
      by_cases hl : isL x = true
      · have HY := Lib.hid (low_yes hl)
        rw [hl] at HL
        clear hl
        go_wp2_with fail
        refine (HL.out _).mono ?_
        rintro e w2 ⟨rfl, rfl⟩
        go_wp2_with fail
        rw [HY.out]
        go_roundw
        case rel => exact ⟨k + 1, by omega, by go_num, HST.out, HBS.out⟩
        case measure => simp [intOf]; omega
      · have hl' : isL x = false := by simpa using hl
        have HO := Lib.hid (HKE.out (low_no hl'))
        rw [hl'] at HL
        clear hl hl'
        go_wp2_with fail
        refine (HL.out _).mono ?_
        rintro e w2 ⟨rfl, rfl⟩
        go_wp2_with fail
        go_roundw
        case rel => exact ⟨k + 1, by omega, by go_num, HO.out, hb⟩
        case measure => simp [intOf]; omega
    · obtain rfl : k = n := by omega
      have e : smallL (s.take k) ++ s.drop k = smallL s := by rw [List.take_of_length_le (by rw [HN.out]; exact Nat.le_refl _), List.drop_eq_nil_of_le (by rw [HN.out]; exact Nat.le_refl _), List.append_nil]
      rw [e] at ho
      have hs := str_rd ho.rd
      clear e hkn
      go_wp2_with fail
      go_ret
      exact ⟨rfl, hb⟩

/-! ### Blanks -/
def isB (x : UInt8) : Bool := blk2.contains x
theorem dw_all {p : UInt8 → Bool} : ∀ {l : List UInt8}, l.all p = true → l.dropWhile p = []
  | [], _ => rfl
  | x :: l, h => by
    rw [List.all_cons, Bool.and_eq_true] at h
    rw [List.dropWhile_cons_of_pos h.1]
    exact dw_all h.2
theorem dw_some {p : UInt8 → Bool} : ∀ {l : List UInt8}, l.all p = false → (l.dropWhile p).isEmpty = false
  | [], h => by simp at h
  | x :: l, h => by
    by_cases hx : p x = true
    · rw [List.dropWhile_cons_of_pos hx]
      rw [List.all_cons, hx, Bool.true_and] at h
      exact dw_some h
    · rw [List.dropWhile_cons_of_neg hx]
      rfl
theorem trimR_eq (l : List UInt8) : Lib.trimRightS l blk2 = (l.reverse.dropWhile isB).reverse := rfl
theorem trimR_cons (x : UInt8) (l : List UInt8) : Lib.trimRightS (x :: l) blk2 = if isB x && l.all isB then [] else x :: Lib.trimRightS l blk2 := by
  rw [trimR_eq, trimR_eq, List.reverse_cons, List.dropWhile_append]
  by_cases h : l.all isB = true
  · have hr : l.reverse.all isB = true := by rw [List.all_reverse]; exact h
    rw [dw_all hr, if_pos (by rfl)]
    by_cases hx : isB x = true
    · rw [if_pos (by rw [hx, h]; rfl), List.dropWhile_cons_of_pos hx]
      rfl
    · rw [if_neg (by simp [hx]), List.dropWhile_cons_of_neg hx]
      rfl
  · have h' : l.all isB = false := by simpa using h
    have hr : l.reverse.all isB = false := by rw [List.all_reverse]; exact h'
    rw [dw_some hr, if_neg (by decide), if_neg (by simp [h'])]
    simp
theorem all_dropWhile {l : List UInt8} (h : l.all isB = true) : l.dropWhile isB = [] := dw_all h
/-- From the left first, then from the right. -/
theorem trim_other : ∀ l : List UInt8, trimL l = Lib.trimRightS (l.dropWhile isB) blk2
  | [] => rfl
  | x :: l => by
    have ih := trim_other l
    unfold trimL Lib.trimS at ih ⊢
    rw [trimR_cons]
    by_cases hx : isB x = true
    · rw [List.dropWhile_cons_of_pos hx]
      by_cases h : l.all isB = true
      · rw [if_pos (by rw [hx, h]; rfl), all_dropWhile h]
        rfl
      · rw [if_neg (by simp [h]), ← ih]
        unfold Lib.trimLeftS
        exact List.dropWhile_cons_of_pos hx
    · rw [List.dropWhile_cons_of_neg hx, if_neg (by simp [hx]), trimR_cons, if_neg (by simp [hx])]
      unfold Lib.trimLeftS
      exact List.dropWhile_cons_of_neg hx

end Go.Proofs.YtckkmdigmecagaaDoor.Fl

/-
  Names of 32 bytes (api.ID) as values, in blocks, held against each other.
-/
namespace Go.Proofs.YtckkmdigmecagaaDoor
open Go.RowKit

theorem results_cell_tmp {P : Program} {fn : Func} {p q : Tmp} {ty : TypeId} (h : fn.results = #[.cell p ty, .tmp q]) (tmps : Array Value) (w : World) (g : Nat) (t : TypeId) (cs : Array Value) (fr : Nat × Nat) (d : TypeDesc)
    (hp : tmps.getD p undef = .pointer (some ⟨g, 0, none⟩)) (hg : w.heap[g]? = some (.cells cs t fr))
    (hu : P.underlying ty = some d) (hd : (match d with | .struct _ | .array _ _ => true | _ => false) = true) (hi : (P.info? ty).map (·.size) = some cs.size) (v : Value) (hv : tmps.getD q undef = v) :
    (results fn tmps).run P w = .ok (.tuple #[.agg cs, v]) w := by
  have hp' : tmps[p]?.getD undef = .pointer (some ⟨g, 0, none⟩) := by simpa using hp
  have hv' : tmps[q]?.getD undef = v := by simpa using hv
  simp [results, h, hp', hv', asAddr, run_loadVar_row w g t ty cs fr d hg hu hd hi]

/-- The cells of a name. -/
def idA (R : List UInt8) : Array Value := (R.map b8).toArray
/-- The zero name. -/
def zid : List UInt8 := List.replicate 32 0
theorem zid_len : zid.length = 32 := by simp [zid]
theorem idA_size {R : List UInt8} (h : R.length = 32) : (idA R).size = 32 := by simp [idA, h]
theorem idA_one {R : List UInt8} : ∀ v ∈ (idA R).toList, v.oneCell' = true := by
  intro v hv
  exact b8_one R v hv
theorem idA_same {R R2 : List UInt8} (h : R.length = 32) (h2 : R2.length = 32) : (idA R).size = (idA R2).size := (idA_size h).trans (idA_size h2).symm
section
variable {ops : Array Oper} {rest : List Oper} {o : Oper} {a : Act} {Q : Exit → Act → World → Prop} {w : World}
end

end Go.Proofs.YtckkmdigmecagaaDoor

/-
  Package field: Line.
-/
namespace Go.Proofs.YtckkmdigmecagaaDoor.Fl
open Go.RowKit

/-- A field as a value. -/
def fdA (a b : List UInt8) : Array Value := #[.string ⟨a.toArray⟩, .string ⟨b.toArray⟩]
theorem zero_fd : (Tryd.prog.info? 56).map (·.zero) = some (some (.agg (fdA [] []))) := by kernel_rfl
theorem size_fd0 : (Tryd.prog.info? 56).map (·.size) = some 2 := by kernel_rfl
theorem size_fd (a b : List UInt8) : (Tryd.prog.info? 56).map (·.size) = some (fdA a b).size := size_fd0
theorem fd_one (a b : List UInt8) : ∀ x ∈ (fdA a b).toList, x.oneCell' = true := by
  intro x hx
  simp [fdA] at hx
  rcases hx with rfl | rfl <;> rfl
/-- May a name have it? May a value? -/
def okN (x : UInt8) : Bool := isL x || (decide (48 ≤ x.toNat) && decide (x.toNat ≤ 57)) || decide (x.toNat = 45)
def okV (x : UInt8) : Bool := decide (x.toNat = 9) || (decide (32 ≤ x.toNat) && decide (x.toNat ≤ 126))
/-- A field that a line is: its name, its value, the error's number. -/
def lineR (s : List UInt8) : List UInt8 × List UInt8 × Int :=
  if (cut1 58 s).2.2 = true ∧ (cut1 58 s).1 ≠ [] ∧ (cut1 58 s).1.all okN = true ∧ (cut1 58 s).2.1.all okV = true then (smallL (cut1 58 s).1, trimL (cut1 58 s).2.1, 0) else ([], [], 4)
theorem line_bad {s : List UInt8} (h : ¬ ((cut1 58 s).2.2 = true ∧ (cut1 58 s).1 ≠ [] ∧ (cut1 58 s).1.all okN = true ∧ (cut1 58 s).2.1.all okV = true)) : lineR s = ([], [], 4) := if_neg h
def Lined (w : World) (s : List UInt8) (e : Ending) (w' : World) : Prop := e = .returned (.tuple #[.agg (fdA (lineR s).1 (lineR s).2.1), .int .i64 (lineR s).2.2]) ∧ Below w.heap.size w w'
theorem all_at {p : UInt8 → Bool} {l : List UInt8} {k : Nat} {x : UInt8} (h : l[k]? = some x) (hx : p x = false) : l.all p ≠ true := by
  intro ha
  have := List.all_eq_true.1 ha x (List.mem_of_getElem? h)
  rw [hx] at this
  cases this
theorem all_of {p : UInt8 → Bool} {l : List UInt8} (h : ∀ (k : Nat) x, l[k]? = some x → p x = true) : l.all p = true := by
  rw [List.all_eq_true]
  intro x hx
  obtain ⟨k, hk⟩ := List.mem_iff_getElem?.1 hx
  exact h k x hk
/-- The cases of a name's byte, and of a value's. -/
theorem name_case (x : UInt8) : (isL x = true ∧ okN x = true) ∨ (isL x = false ∧ ((((x.toNat : Int) < 48 ∧ (x.toNat : Int) ≠ 45) ∧ okN x = false) ∨ ((x.toNat : Int) = 45 ∧ okN x = true) ∨ ((48 ≤ (x.toNat : Int) ∧ (x.toNat : Int) ≤ 57) ∧ okN x = true) ∨ ((48 ≤ (x.toNat : Int) ∧ 57 < (x.toNat : Int)) ∧ okN x = false))) := by
  unfold okN
  cases hl : isL x
  · refine .inr ⟨rfl, ?_⟩
    by_cases h1 : (x.toNat : Int) = 45
    · exact .inr (.inl ⟨h1, by simp; omega⟩)
    · by_cases h2 : (x.toNat : Int) < 48
      · exact .inl ⟨⟨h2, h1⟩, by simp; omega⟩
      · by_cases h3 : (x.toNat : Int) ≤ 57
        · exact .inr (.inr (.inl ⟨⟨by omega, h3⟩, by simp; omega⟩))
        · exact .inr (.inr (.inr ⟨⟨by omega, by omega⟩, by simp; omega⟩))
  · exact .inl ⟨rfl, rfl⟩
theorem value_case (x : UInt8) : ((x.toNat : Int) = 9 ∧ okV x = true) ∨ (((x.toNat : Int) ≠ 9 ∧ (x.toNat : Int) < 32) ∧ okV x = false) ∨ ((32 ≤ (x.toNat : Int) ∧ (x.toNat : Int) ≤ 126) ∧ okV x = true) ∨ ((32 ≤ (x.toNat : Int) ∧ 126 < (x.toNat : Int)) ∧ okV x = false) := by
  unfold okV
  by_cases h1 : (x.toNat : Int) = 9
  · exact .inl ⟨h1, by simp; omega⟩
  · by_cases h2 : (x.toNat : Int) < 32
    · exact .inr (.inl ⟨⟨h1, h2⟩, by simp; omega⟩)
    · by_cases h3 : (x.toNat : Int) ≤ 126
      · exact .inr (.inr (.inl ⟨⟨by omega, h3⟩, by simp; omega⟩))
      · exact .inr (.inr (.inr ⟨⟨by omega, by omega⟩, by simp; omega⟩))
theorem emp_no {l : List UInt8} (h : l ≠ []) : l.isEmpty = false := by
  cases l with
  | nil => exact absurd rfl h
  | cons x l => rfl

set_option maxRecDepth 20000 in
set_option maxHeartbeats 8000000 in
theorem Line_any (s : List UInt8) (hs : s.length ≤ 1048576) (w : World) (hm : Mx w) : Calls Tryd.prog 28 #[.string ⟨s.toArray⟩] w (Lined w s) := by
  have hBAD : lineR s = ([], [], 4) → ∀ w', Below w.heap.size w w' → Lined w s (.returned (.tuple #[.agg (fdA [] []), .int .i64 4])) w' := fun h w' hb => by
    unfold Lined
    rw [h]
    exact ⟨rfl, hb⟩
  have HBAD := Lib.hid hBAD
  have HC := Lib.hid (fun W (hb : Below w.heap.size w W) => Cut_any 58 s (by omega) W (hm.below hb))
  have hle := cut1_le 58 s
  have hlb := line_bad (s := s)
  have hlg : (cut1 58 s).2.2 = true → (cut1 58 s).1 ≠ [] → (cut1 58 s).1.all okN = true → (cut1 58 s).2.1.all okV = true → lineR s = (smallL (cut1 58 s).1, trimL (cut1 58 s).2.1, 0) := fun a b c d => if_pos ⟨a, b, c, d⟩
  obtain ⟨X, hX⟩ : ∃ X, cut1 58 s = X := ⟨_, rfl⟩
  rw [hX] at HC hle hlb hlg
  obtain ⟨a, b, f⟩ := X
  dsimp only at HC hle hlb hlg
  have HLB := Lib.hid hlb
  have HLG := Lib.hid hlg
  have hla : a.length ≤ 1048576 := by omega
  have hlb' : b.length ≤ 1048576 := by omega
  have HSA := Lib.hid (fun W => small_any a (by omega) W)
  have HTB := Lib.hid (fun W => Trim_any b (by omega) W)
  clear hBAD hle hX hm hlb hlg
  by_cases hf : f = true
  · subst hf
    by_cases ha : a = []
    · subst ha
      have HE := Lib.hid (HBAD.out (HLB.out (fun h => h.2.1 rfl)))
      go_enter Tryd.func28, Tryd.ntmps28
      go_wp2_with (refine wpList_alloc_zero rfl _ rfl (fdA [] []) zero_fd ?_; intro w1 hg1 hb1 hz1)
      refine (HC.out _ hb1).mono ?_
      rintro e w2 ⟨rfl, hb2⟩
      have hB2 := hb1.trans (hb2.mono hb1.size)
      have hG2 := (hb2.block _ (by omega)).trans hg1
      clear hz1 hg1
      go_wp2_with (refine wpList_store_all rfl _ _ _ rfl w.heap.size rfl _ (fdA [] []) (fdA [] []) rfl hG2 (size_fd _ _) rfl (fd_one _ _) ?_; intro w7 hg7 hgr7 hz7)
      refine bodyPost_ret (results_cell_tmp rfl _ _ w.heap.size _ _ _ _ rfl hg7 Tryd.underlying56 rfl (size_fd _ _) _ rfl) rfl ?_
      exact HE.out w7 (hB2.grown hgr7 hB2.size (fun g hg => by obtain rfl := Option.some.inj hg; exact Nat.le_refl _))
    · have hae := emp_no ha
      have HNE := Lib.hid ha
      clear ha
      go_enter Tryd.func28, Tryd.ntmps28
      go_wp2_with (refine wpList_alloc_zero rfl _ rfl (fdA [] []) zero_fd ?_; intro w1 hg1 hb1 hz1)
      refine (HC.out _ hb1).mono ?_
      rintro e w2 ⟨rfl, hb2⟩
      have hB2 := hb1.trans (hb2.mono hb1.size)
      have hG2 := (hb2.block _ (by omega)).trans hg1
      have hlt2 : w.heap.size < w2.heap.size := by have := hb2.size; omega
      have HG2 := Lib.hid hG2
      clear hz1 hg1 hb1 hb2 hG2
      go_wp2_with fail
      go_loop [26] (fun i => ∃ k : Nat, k ≤ a.length ∧ i = .int .i64 k ∧ Hid (∀ (j : Nat) x, j < k → a[j]? = some x → okN x = true)) (fun i => a.length - (intOf i).toNat)
      case atStart => exact ⟨0, by omega, rfl, (show ∀ (j : Nat) x, j < 0 → _ from fun j x h => absurd h (by omega))⟩
      case round =>
        obtain ⟨k, hk, rfl, hH⟩ := hrel
        by_cases hka : k < a.length
        · have hx : a[k]? = some (a[k]'hka) := List.getElem?_eq_getElem hka
          generalize a[k]'hka = x at hx
          have hi := run_str_at (P := Tryd.prog) Tryd.underlying9 a k x hx (kl := .i64)
          have hk' : (k : Int) < a.length := by omega
          have HL := Lib.hid (fun W => letter_any x W)
          have hnext : okN x = true → ∀ j y, j < k + 1 → a[j]? = some y → okN y = true := fun h j y hj hy => by
            by_cases hjk : j < k
            · exact hH.out j y hjk hy
            · obtain rfl : j = k := by omega
              rw [hx] at hy
              rw [← Option.some.inj hy]
              exact h
          have hbad : okN x = false → lineR s = ([], [], 4) := fun h => HLB.out (fun h2 => all_at hx h h2.2.2.1)
          have HN := Lib.hid hnext
          have HB := Lib.hid hbad
          have hxb : (x.toNat : Int) ≤ 255 := by have := x.toNat_lt; omega
          clear hx hnext hbad hka hH
          rcases name_case x with ⟨hl, hok⟩ | ⟨hl, hc⟩
          · rw [hl] at HL
            have HN2 := Lib.hid (HN.out hok)
            clear hl hok
            go_wp2_with fail
            refine (HL.out _).mono ?_
            rintro e w3 ⟨rfl, rfl⟩
            go_wp2_with fail
            go_round
            case rel => exact ⟨k + 1, by omega, by go_num, HN2.out⟩
            case measure => simp [intOf]; omega
          · rw [hl] at HL
            clear hl
            rcases hc with ⟨⟨c1, c2⟩, hok⟩ | ⟨c1, hok⟩ | ⟨⟨c1, c2⟩, hok⟩ | ⟨⟨c1, c2⟩, hok⟩
            · have c2' : ((x.toNat : Int) != 45) = true := by simpa using c2
              have HE := Lib.hid (HBAD.out (HB.out hok))
              have hG := HG2.out
              clear c2 hok
              go_wp2_with fail
              refine (HL.out _).mono ?_
              rintro e w3 ⟨rfl, rfl⟩
              go_wp2_with (refine wpList_store_all rfl _ _ _ rfl w.heap.size rfl _ (fdA [] []) (fdA [] []) rfl hG (size_fd _ _) rfl (fd_one _ _) ?_; intro w7 hg7 hgr7 hz7)
              refine bodyPost_ret (results_cell_tmp rfl _ _ w.heap.size _ _ _ _ rfl hg7 Tryd.underlying56 rfl (size_fd _ _) _ rfl) rfl ?_
              exact HE.out w7 (hB2.grown hgr7 hB2.size (fun g hg => by obtain rfl := Option.some.inj hg; exact Nat.le_refl _))
            · have HN2 := Lib.hid (HN.out hok)
              have c1' : ((x.toNat : Int) != 45) = false := by simpa using c1
              have c2' : (x.toNat : Int) < 48 := by omega
              clear hok c1
              go_wp2_with fail
              refine (HL.out _).mono ?_
              rintro e w3 ⟨rfl, rfl⟩
              go_wp2_with fail
              go_round
              case rel => exact ⟨k + 1, by omega, by go_num, HN2.out⟩
              case measure => simp [intOf]; omega
            · have HN2 := Lib.hid (HN.out hok)
              clear hok
              go_wp2_with fail
              refine (HL.out _).mono ?_
              rintro e w3 ⟨rfl, rfl⟩
              go_wp2_with fail
              go_round
              case rel => exact ⟨k + 1, by omega, by go_num, HN2.out⟩
              case measure => simp [intOf]; omega
            · have c3' : ((x.toNat : Int) != 45) = true := by simp; omega
              have HE := Lib.hid (HBAD.out (HB.out hok))
              have hG := HG2.out
              clear hok
              go_wp2_with fail
              refine (HL.out _).mono ?_
              rintro e w3 ⟨rfl, rfl⟩
              go_wp2_with (refine wpList_store_all rfl _ _ _ rfl w.heap.size rfl _ (fdA [] []) (fdA [] []) rfl hG (size_fd _ _) rfl (fd_one _ _) ?_; intro w7 hg7 hgr7 hz7)
              refine bodyPost_ret (results_cell_tmp rfl _ _ w.heap.size _ _ _ _ rfl hg7 Tryd.underlying56 rfl (size_fd _ _) _ rfl) rfl ?_
              exact HE.out w7 (hB2.grown hgr7 hB2.size (fun g hg => by obtain rfl := Option.some.inj hg; exact Nat.le_refl _))
        · obtain rfl : k = a.length := by omega
          have hall : a.all okN = true := all_of (fun j x hx => hH.out j x (List.getElem?_eq_some_iff.1 hx).1 hx)
          have HALL := Lib.hid hall
          clear hka hall hH
          go_wp2_with fail
          go_loop [51] (fun i => ∃ k : Nat, k ≤ b.length ∧ i = .int .i64 k ∧ Hid (∀ (j : Nat) x, j < k → b[j]? = some x → okV x = true)) (fun i => b.length - (intOf i).toNat)
          case atStart => exact ⟨0, by omega, rfl, (show ∀ (j : Nat) x, j < 0 → _ from fun j x h => absurd h (by omega))⟩
          case round =>
            obtain ⟨k, hk, rfl, hH⟩ := hrel
            by_cases hkb : k < b.length
            · have hx : b[k]? = some (b[k]'hkb) := List.getElem?_eq_getElem hkb
              generalize b[k]'hkb = x at hx
              have hi := run_str_at (P := Tryd.prog) Tryd.underlying9 b k x hx (kl := .i64)
              have hk' : (k : Int) < b.length := by omega
              have hnext : okV x = true → ∀ j y, j < k + 1 → b[j]? = some y → okV y = true := fun h j y hj hy => by
                by_cases hjk : j < k
                · exact hH.out j y hjk hy
                · obtain rfl : j = k := by omega
                  rw [hx] at hy
                  rw [← Option.some.inj hy]
                  exact h
              have hbad : okV x = false → lineR s = ([], [], 4) := fun h => HLB.out (fun h2 => all_at hx h h2.2.2.2)
              have HN := Lib.hid hnext
              have HB := Lib.hid hbad
              have hxb : (x.toNat : Int) ≤ 255 := by have := x.toNat_lt; omega
              clear hx hnext hbad hkb hH
              rcases value_case x with ⟨c1, hok⟩ | ⟨⟨c1, c2⟩, hok⟩ | ⟨⟨c1, c2⟩, hok⟩ | ⟨⟨c1, c2⟩, hok⟩
              · have HN2 := Lib.hid (HN.out hok)
                have c1' : ((x.toNat : Int) != 9) = false := by simpa using c1
                clear hok c1
                go_wp2_with fail
                go_round
                case rel => exact ⟨k + 1, by omega, by go_num, HN2.out⟩
                case measure => simp [intOf]; omega
              · have c1' : ((x.toNat : Int) != 9) = true := by simpa using c1
                have HE := Lib.hid (HBAD.out (HB.out hok))
                have hG := HG2.out
                clear hok c1
                go_wp2_with (refine wpList_store_all rfl _ _ _ rfl w.heap.size rfl _ (fdA [] []) (fdA [] []) rfl hG (size_fd _ _) rfl (fd_one _ _) ?_; intro w7 hg7 hgr7 hz7)
                refine bodyPost_ret (results_cell_tmp rfl _ _ w.heap.size _ _ _ _ rfl hg7 Tryd.underlying56 rfl (size_fd _ _) _ rfl) rfl ?_
                exact HE.out w7 (hB2.grown hgr7 hB2.size (fun g hg => by obtain rfl := Option.some.inj hg; exact Nat.le_refl _))
              · have HN2 := Lib.hid (HN.out hok)
                have c3' : ((x.toNat : Int) != 9) = true := by simp; omega
                clear hok
                go_wp2_with fail
                go_round
                case rel => exact ⟨k + 1, by omega, by go_num, HN2.out⟩
                case measure => simp [intOf]; omega
              · have c1' : ((x.toNat : Int) != 9) = true := by simp; omega
                have HE := Lib.hid (HBAD.out (HB.out hok))
                have hG := HG2.out
                clear hok
                go_wp2_with (refine wpList_store_all rfl _ _ _ rfl w.heap.size rfl _ (fdA [] []) (fdA [] []) rfl hG (size_fd _ _) rfl (fd_one _ _) ?_; intro w7 hg7 hgr7 hz7)
                refine bodyPost_ret (results_cell_tmp rfl _ _ w.heap.size _ _ _ _ rfl hg7 Tryd.underlying56 rfl (size_fd _ _) _ rfl) rfl ?_
                exact HE.out w7 (hB2.grown hgr7 hB2.size (fun g hg => by obtain rfl := Option.some.inj hg; exact Nat.le_refl _))
            · obtain rfl : k = b.length := by omega
              have hall : b.all okV = true := all_of (fun j x hx => hH.out j x (List.getElem?_eq_some_iff.1 hx).1 hx)
              have hgood := HLG.out trivial HNE.out HALL.out hall
              have HGD := Lib.hid hgood
              clear hall hgood hH hkb
              go_wp2_with fail
              refine (HSA.out _).mono ?_
              rintro e w3 ⟨rfl, hb3⟩
              have hB3 := hB2.trans (hb3.mono hB2.size)
              go_wp2_with fail
              refine (HTB.out _).mono ?_
              rintro e w4 ⟨rfl, hb4⟩
              have hB4 := hB3.trans (hb4.mono hB3.size)
              have hG4 := (hb4.block _ (by have := hb3.size; omega)).trans ((hb3.block _ hlt2).trans HG2.out)
              clear hb3 hb4
              go_wp2_with (refine wpList_store_all rfl _ _ _ rfl w.heap.size rfl _ (fdA [] []) (fdA (smallL a) (trimL b)) rfl hG4 (size_fd _ _) rfl (fd_one _ _) ?_; intro w7 hg7 hgr7 hz7)
              refine bodyPost_ret (results_cell_tmp rfl _ _ w.heap.size _ _ _ _ rfl hg7 Tryd.underlying56 rfl (size_fd _ _) _ rfl) rfl ?_
              unfold Lined
              rw [HGD.out]
              exact ⟨rfl, hB4.grown hgr7 hB4.size (fun g hg => by obtain rfl := Option.some.inj hg; exact Nat.le_refl _)⟩
  · have hf' : f = false := by simpa using hf
    subst hf'
    have HE := Lib.hid (HBAD.out (HLB.out (fun h => by cases h.1)))
    clear hf
    go_enter Tryd.func28, Tryd.ntmps28
    go_wp2_with (refine wpList_alloc_zero rfl _ rfl (fdA [] []) zero_fd ?_; intro w1 hg1 hb1 hz1)
    refine (HC.out _ hb1).mono ?_
    rintro e w2 ⟨rfl, hb2⟩
    have hB2 := hb1.trans (hb2.mono hb1.size)
    have hG2 := (hb2.block _ (by omega)).trans hg1
    clear hz1 hg1
    go_wp2_with (refine wpList_store_all rfl _ _ _ rfl w.heap.size rfl _ (fdA [] []) (fdA [] []) rfl hG2 (size_fd _ _) rfl (fd_one _ _) ?_; intro w7 hg7 hgr7 hz7)
    refine bodyPost_ret (results_cell_tmp rfl _ _ w.heap.size _ _ _ _ rfl hg7 Tryd.underlying56 rfl (size_fd _ _) _ rfl) rfl ?_
    exact HE.out w7 (hB2.grown hgr7 hB2.size (fun g hg => by obtain rfl := Option.some.inj hg; exact Nat.le_refl _))

end Go.Proofs.YtckkmdigmecagaaDoor.Fl

/-
  Package field: Words.
-/
namespace Go.Proofs.YtckkmdigmecagaaDoor.Fl
open Go.RowKit

def strV (l : List UInt8) : Value := .string ⟨l.toArray⟩
theorem strV_one (l : List (List UInt8)) : ∀ u ∈ l.map strV, u.oneCell' = true := by
  intro u hu
  obtain ⟨_, _, rfl⟩ := List.mem_map.1 hu
  rfl
theorem es : ElemT Tryd.prog 75 9 (.string ByteArray.empty) 1 16 := ElemT.of Tryd.underlying75 (by kernel_rfl) rfl (by omega)
/-- The words that pieces say. -/
def wordsF : List (List UInt8) → List (List UInt8)
  | [] => []
  | p :: ps => if trimL p = [] then wordsF ps else smallL (trimL p) :: wordsF ps
theorem wordsF_app : ∀ a b : List (List UInt8), wordsF (a ++ b) = wordsF a ++ wordsF b
  | [], b => rfl
  | p :: a, b => by
    rw [List.cons_append, wordsF, wordsF, wordsF_app a b]
    split <;> rfl
theorem trimR_le (l : List UInt8) : (Lib.trimRightS l blk2).length ≤ l.length := by
  rw [trimR_eq, List.length_reverse]
  have := (List.dropWhile_suffix (l := l.reverse) isB).length_le
  simpa using this
theorem trimL_le (l : List UInt8) : (trimL l).length ≤ l.length := by
  have h1 := (List.dropWhile_suffix (l := Lib.trimRightS l blk2) isB).length_le
  have h2 := trimR_le l
  have e : trimL l = (Lib.trimRightS l blk2).dropWhile isB := rfl
  rw [e]
  omega
theorem split1_le (c : UInt8) : ∀ l, (split1 c l).length ≤ l.length + 1 ∧ ∀ p ∈ split1 c l, p.length ≤ l.length
  | [] => ⟨by simp [split1], fun p hp => by simp [split1] at hp; simp [hp]⟩
  | x :: l => by
    obtain ⟨h1, h2⟩ := split1_le c l
    rw [split1]
    split
    · refine ⟨by simpa using h1, fun p hp => ?_⟩
      rcases List.mem_cons.1 hp with rfl | hp
      · simp
      · have := h2 p hp
        simp
        omega
    · split
      · rename_i q ps hq
        rw [hq] at h1 h2
        refine ⟨by simp at h1 ⊢; omega, fun p hp => ?_⟩
        rcases List.mem_cons.1 hp with rfl | hp
        · have := h2 q (by simp)
          simpa using this
        · have := h2 p (by simp [hp])
          simp
          omega
      · refine ⟨by simp, fun p hp => ?_⟩
        obtain rfl : p = [x] := by simpa using hp
        simp
theorem wordsF_len : ∀ ps, (wordsF ps).length ≤ ps.length
  | [] => Nat.le_refl _
  | p :: ps => by
    have := wordsF_len ps
    rw [wordsF]
    split <;> (simp; omega)

set_option maxRecDepth 20000 in
set_option maxHeartbeats 8000000 in
theorem Words_any (s : List UInt8) (hs : s.length ≤ 1048576) (w : World) (hm : Mx w) : Calls Tryd.prog 36 #[.string ⟨s.toArray⟩] w fun e w' => ∃ A n c, e = .returned (.slice A n c) ∧ Own w' w.heap.size 9 1 A n c ((wordsF (split1 44 s)).map strV) ∧ Below w.heap.size w w' := by
  have HSP := Lib.hid (Split_any 44 s (by omega) w hm)
  obtain ⟨hpl, hpe⟩ := split1_le 44 s
  obtain ⟨P, hP⟩ : ∃ P, split1 44 s = P := ⟨_, rfl⟩
  rw [hP] at HSP hpl hpe ⊢
  obtain ⟨N, hN⟩ : ∃ N, P.length = N := ⟨_, rfl⟩
  rw [hN] at HSP hpl
  have HN := Lib.hid hN
  have hN1 : N ≤ 1048577 := by omega
  have HPE := Lib.hid (fun p hp => (Nat.le_trans (hpe p hp) hs : p.length ≤ 1048576))
  clear hP hN hm hpe hpl hs
  go_enter Tryd.func36, Tryd.ntmps36
  go_wp2_with fail
  refine HSP.out.mono ?_
  rintro e w1 ⟨rfl, hw1⟩
  have hrd : Rd w1 1 (some ⟨w.heap.size, 0, none⟩) N N (P.map strV) := by
    rw [hw1]
    exact Rd.lit w _ _ N (by rw [List.length_map, HN.out]) (by unfold maxLen; omega)
  have hb1 : Below w.heap.size w w1 := by rw [hw1]; exact (Below.refl _ _).alloc (Nat.le_refl _) _
  clear hw1
  obtain ⟨A1, hA1⟩ : ∃ A1, (some ⟨w.heap.size, 0, none⟩ : Option Addr) = A1 := ⟨_, rfl⟩
  rw [hA1] at hrd ⊢
  have hs1 := hb1.size
  clear hA1 HSP
  go_wp2_with fail
  go_loopw [3, 9] (fun l i wr => ∃ (k : Nat) (A : Option Addr) (n c : Nat), k ≤ N ∧ l = .slice A n c ∧ i = .int .i64 k ∧ Own wr w1.heap.size 9 1 A n c ((wordsF (P.take k)).map strV) ∧ n ≤ k ∧ Below w1.heap.size w1 wr) (fun _ i _ => N - (intOf i).toNat)
  case atStart => exact ⟨0, none, 0, 0, by omega, rfl, rfl, Own.nil_ _ _ _ _, by omega, Below.refl _ _⟩
  case round =>
    obtain ⟨k, A, n, c, hk, rfl, rfl, ho, hn, hb⟩ := hrel
    by_cases hkN : k < N
    · have hx : P[k]? = some (P[k]'(by rw [HN.out]; exact hkN)) := List.getElem?_eq_getElem _
      generalize P[k]'(by rw [HN.out]; exact hkN) = p at hx
      have hidx := run_index_rd (P := Tryd.prog) (A := A1) (n := N) (c := N) es hrd.nil hrd.le k hkN
      rw [Nat.mul_one] at hidx
      have hcell := (hrd.below hb).cell k (strV p) (by rw [List.getElem?_map, hx]; rfl)
      have hpl := HPE.out p (List.mem_of_getElem? hx)
      have htl := trimL_le p
      have HT := Lib.hid (fun W => Trim_any p (by omega) W)
      obtain ⟨q, hq⟩ : ∃ q, trimL p = q := ⟨_, rfl⟩
      rw [hq] at HT htl
      have hnext : wordsF (P.take (k + 1)) = wordsF (P.take k) ++ if q = [] then [] else [smallL q] := by
        obtain ⟨hk2, hx2⟩ := List.getElem?_eq_some_iff.1 hx
        rw [List.take_succ_eq_append_getElem hk2, wordsF_app, hx2, wordsF, hq]
        split <;> rfl
      have HNX := Lib.hid hnext
      have hk' : (k : Int) < N := by omega
      have hs1r := hb.size
      unfold strV at hcell
      clear hx hkN hq hnext
      by_cases hqe : q = []
      · have HNX2 : Hid (wordsF (P.take (k + 1)) = wordsF (P.take k)) := by
          show _ = _
          rw [HNX.out, if_pos hqe, List.append_nil]
        subst hqe
        clear HNX
        go_wp2_with fail
        refine (HT.out _).mono ?_
        rintro e w2 ⟨rfl, hb2⟩
        have hb12 := hb.trans (hb2.mono hb.size)
        have ho2 := ho.below hb2
        rw [← HNX2.out] at ho2
        clear hb2
        go_wp2_with fail
        go_roundw
        case rel => exact ⟨k + 1, A, n, c, by omega, rfl, by go_num, ho2, by omega, hb12⟩
        case measure => simp [intOf]; omega
      · have HNX2 : Hid (wordsF (P.take (k + 1)) = wordsF (P.take k) ++ [smallL q]) := by
          show _ = _
          rw [HNX.out, if_neg hqe]
        have hqi : q.isEmpty = false := by
          cases q with
          | nil => exact absurd rfl hqe
          | cons x l => rfl
        have HS := Lib.hid (fun W => small_any q (by omega) W)
        clear HNX hqe
        go_wp2_with fail
        refine (HT.out _).mono ?_
        rintro e w2 ⟨rfl, hb2⟩
        have hb12 := hb.trans (hb2.mono hb.size)
        have ho2 := ho.below hb2
        clear hb2
        go_wp2_with fail
        refine (HS.out _).mono ?_
        rintro e w3 ⟨rfl, hb3⟩
        have hb13 := hb12.trans (hb3.mono hb12.size)
        have ho3 := ho2.below hb3
        clear hb3 hcell
        go_wp2_with (at_builtin; refine wpList_app rfl _ _ rfl es (ho3.alloc _) rfl (Rd.lit _ [_] _ 1 rfl (by unfold maxLen; omega)) rfl (by simp [Value.oneCell']) (by omega) (by unfold maxLen; omega) (by have := hb13.size; simp; omega) ?_; intro A4 c4 w4 ho4 hg4 hq4; have hb4 := below_app hb13 (Nat.le_refl _) ho3 hg4)
        have ho5 : Own w4 w1.heap.size 9 1 A4 (n + 1) c4 ((wordsF (P.take (k + 1))).map strV) := by
          rw [HNX2.out, List.map_append]
          exact ho4
        go_roundw
        case rel => exact ⟨k + 1, A4, n + 1, c4, by omega, rfl, by go_num, ho5, by omega, hb4⟩
        case measure => simp [intOf]; omega
    · obtain rfl : k = N := by omega
      rw [List.take_of_length_le (by rw [HN.out]; exact Nat.le_refl _)] at ho
      clear hkN
      go_wp2_with fail
      go_ret
      exact ⟨A, n, c, rfl, ho.mono hs1, hb1.trans (hb.mono hs1)⟩

end Go.Proofs.YtckkmdigmecagaaDoor.Fl

/-
  How the arguments of a law are opened: integers within their kind's bounds, a slice of bytes as a list of bytes.
-/
namespace Go.Proofs.YtckkmdigmecagaaDoor
open Go.ChangeShapes Go.WideShapes Go.ChangeAt Go.RowKit

theorem wfb_u64 {a : Int} (h : (Lit.int .u64 a).wf = true) : 0 ≤ a ∧ a ≤ 18446744073709551615 := by
  simp [Lit.wf, IntKind.min, IntKind.max, IntKind.signed, IntKind.bits] at h
  omega
theorem wfb_i64 {a : Int} (h : (Lit.int .i64 a).wf = true) : -9223372036854775808 ≤ a ∧ a ≤ 9223372036854775807 := by
  simp [Lit.wf, IntKind.min, IntKind.max, IntKind.signed, IntKind.bits] at h
  omega
theorem wfb_u8 {a : Int} (h : (Lit.int .u8 a).wf = true) : 0 ≤ a ∧ a ≤ 255 := by
  simp [Lit.wf, IntKind.min, IntKind.max, IntKind.signed, IntKind.bits] at h
  omega

theorem own_knob : ownKnob Tryd.prog.godebug = none := by kernel_rfl
theorem laid_out : laidOutB Tryd.prog = true := by kernel_rfl

/-- The numbers of a slice of integers that came in. -/
theorem ints_of {H : Type} {enc : TypeId × Value → H} {w : World} {t e : TypeId} {k : IntKind} {a : Option Addr} {len cap : Nat} {d : DataW H} {p : List MemPlace}
    (ht : Tryd.prog.underlying t = some (.slice e)) (he : Tryd.prog.underlying e = some (.int k)) (hc : Tryd.prog.cellsOf e = 1) (h : DataW.Trod enc Tryd.prog w 0 (fun _ => true) true t (.slice a len cap) d p) :
    ∃ zs : List Int, (a = none ∧ len = 0 ∧ cap = 0 ∧ zs = []) ∨ ∃ x, a = some x ∧ len ≤ cap ∧ cap ≤ maxLen ∧ zs.length = cap ∧ (∀ i, i < zs.length → w.cell? (x.add i) = some (.int k (zs.getD i 0))) ∧ ∀ n ∈ zs, (Lit.int k n).wf = true := by
  obtain ⟨fuel, hf⟩ := h
  rcases open_ints ht he hc hf with ⟨hcs, _⟩ | ⟨x, l, c, zs, hcs, _, hl, hm, hz, _, hcell, hwz⟩
  · simp [Value.cells] at hcs
    obtain ⟨rfl, rfl, rfl⟩ := hcs
    exact ⟨[], .inl ⟨rfl, rfl, rfl, rfl⟩⟩
  · simp [Value.cells] at hcs
    obtain ⟨rfl, rfl, rfl⟩ := hcs
    exact ⟨zs, .inr ⟨_, rfl, hl, hm, by simpa using hz, hcell, hwz⟩⟩

/-- A slice of bytes that came in. -/
theorem rd_bytes {w : World} {a : Option Addr} {len cap : Nat} {zs : List Int}
    (h : (a = none ∧ len = 0 ∧ cap = 0 ∧ zs = []) ∨ ∃ x, a = some x ∧ len ≤ cap ∧ cap ≤ maxLen ∧ zs.length = cap ∧ (∀ i, i < zs.length → w.cell? (x.add i) = some (.int .u8 (zs.getD i 0))) ∧ ∀ n ∈ zs, (Lit.int .u8 n).wf = true) :
    ∃ l : List UInt8, Rd w 1 a len cap (l.map b8) := by
  rcases h with ⟨rfl, rfl, rfl, rfl⟩ | ⟨x, rfl, hl, hm, hz, hcell, hwz⟩
  · exact ⟨[], Rd.nil_ w 1⟩
  · refine ⟨(zs.take len).map fun n => UInt8.ofNat n.toNat, ⟨by simp; omega, hl, hm, (fun h => by cases h), fun j u hu => ?_⟩⟩
    rw [List.getElem?_map, List.getElem?_map, List.getElem?_take] at hu
    split at hu
    · have hjz : j < zs.length := by omega
      rw [List.getElem?_eq_getElem hjz] at hu
      simp only [Option.map_some, Option.some.injEq] at hu
      subst hu
      have hb := wfb_u8 (hwz zs[j] (List.getElem_mem hjz))
      have hc := hcell j hjz
      rw [at_some, hc, b8_ofNat]
      simp only [List.getD, List.getElem?_eq_getElem hjz, Option.getD_some]
      congr 2
      omega
    · cases hu

end Go.Proofs.YtckkmdigmecagaaDoor

/-
  How a slice of slices of bytes is opened.
-/
namespace Go.Proofs.YtckkmdigmecagaaDoor
open Go.ChangeShapes Go.WideShapes Go.ChangeAt Go.RowKit Go.Deep

structure Row where
  A : Option Addr
  n : Nat
  c : Nat
  l : List UInt8
def Row.val (r : Row) : Value := .slice r.A r.n r.c
/-- A slice that reads as these rows, each of which reads as its bytes. -/
structure Rows2 (w : World) (A : Option Addr) (n c : Nat) (ll : List Row) : Prop where
  rd : Rd w 1 A n c (ll.map Row.val)
  each : ∀ r ∈ ll, Rd w 1 r.A r.n r.c (r.l.map b8)

theorem choose_list {α : Type} {Q : Nat → α → Prop} : ∀ (n : Nat), (∀ i, i < n → ∃ r, Q i r) → ∃ ll : List α, ll.length = n ∧ ∀ (i : Nat) r, ll[i]? = some r → Q i r
  | 0, _ => ⟨[], rfl, fun i r h => by simp at h⟩
  | n + 1, h => by
    obtain ⟨ll, hl, hq⟩ := choose_list n fun i hi => h i (by omega)
    obtain ⟨r, hr⟩ := h n (by omega)
    refine ⟨ll ++ [r], by simp [hl], fun i r' hi => ?_⟩
    by_cases hin : i < n
    · rw [List.getElem?_append_left (by omega)] at hi
      exact hq i r' hi
    · rw [List.getElem?_append_right (by omega)] at hi
      by_cases hi0 : i - ll.length = 0
      · have e : i = n := by omega
        subst e
        rw [hi0] at hi
        simp at hi
        subst hi
        exact hr
      · have : 0 < i - ll.length := by omega
        rw [List.getElem?_eq_none (by simp; omega)] at hi
        cases hi

theorem row_of {H : Type} {enc : TypeId × Value → H} {w : World} {e u : TypeId} {fuel : Nat} {cs : List Value} {x : DataW H × List MemPlace}
    (he : Tryd.prog.underlying e = some (.slice u)) (hu : Tryd.prog.underlying u = some (.int .u8)) (hc2 : Tryd.prog.cellsOf u = 1) (h : DataW.trod enc Tryd.prog w 0 (fun _ => true) true fuel e cs = some x) :
    ∃ r : Row, cs = [r.val] ∧ Rd w 1 r.A r.n r.c (r.l.map b8) := by
  rcases open_ints he hu hc2 h with ⟨hcs, _⟩ | ⟨a, l, c, zs, hcs, _, hl, hm, hz, _, hcell, hwz⟩
  · exact ⟨⟨none, 0, 0, []⟩, hcs, Rd.nil_ w 1⟩
  · obtain ⟨bs, hb⟩ := rd_bytes (w := w) (a := some a) (len := l) (cap := c) (zs := zs) (.inr ⟨a, rfl, hl, hm, by simpa using hz, hcell, hwz⟩)
    exact ⟨⟨some a, l, c, bs⟩, hcs, hb⟩

/-- A slice of slices of bytes that came in. -/
theorem rd_rows {H : Type} {enc : TypeId × Value → H} {w : World} {t e u : TypeId} {a : Option Addr} {len cap : Nat} {d : DataW H} {p : List MemPlace}
    (ht : Tryd.prog.underlying t = some (.slice e)) (he : Tryd.prog.underlying e = some (.slice u)) (hu : Tryd.prog.underlying u = some (.int .u8)) (hc1 : Tryd.prog.cellsOf e = 1) (hc2 : Tryd.prog.cellsOf u = 1)
    (h : DataW.Trod enc Tryd.prog w 0 (fun _ => true) true t (.slice a len cap) d p) : ∃ ll : List Row, Rows2 w a len cap ll := by
  obtain ⟨fuel, hf⟩ := h
  rcases open_slice ht hf with ⟨hcs, _⟩ | ⟨x, l, c, m, n, D, Pl, hcs, _, hl, hm, hmm, _, hel⟩
  · simp [Value.cells] at hcs
    obtain ⟨rfl, rfl, rfl⟩ := hcs
    exact ⟨[], Rd.nil_ w 1, fun r hr => by cases hr⟩
  · simp [Value.cells] at hcs
    obtain ⟨rfl, rfl, rfl⟩ := hcs
    obtain ⟨ll, hll, hq⟩ := choose_list (Q := fun i (r : Row) => w.cell? (at_ (some x) i) = some r.val ∧ Rd w 1 r.A r.n r.c (r.l.map b8)) len fun i hi => by
      obtain ⟨cs', hc, htr⟩ := hel i (by simp at hmm; omega)
      obtain ⟨r, rfl, hr⟩ := row_of he hu hc2 htr
      rw [hc1] at hc
      obtain ⟨_, _, hat⟩ := World.cells?_some hc
      have h0 := hat 0 (by omega)
      refine ⟨r, ?_, hr⟩
      rw [at_some]
      simpa [Addr.add] using h0
    refine ⟨ll, ⟨by simp [hll], hl, hm, (fun h => by cases h), fun j v hv => ?_⟩, fun r hr => ?_⟩
    · rw [List.getElem?_map] at hv
      cases hj : ll[j]? with
      | none => simp [hj] at hv
      | some r =>
        simp [hj] at hv
        subst hv
        exact (hq j r hj).1
    · obtain ⟨i, hi⟩ := List.getElem?_of_mem hr
      exact (hq i r hi).2

end Go.Proofs.YtckkmdigmecagaaDoor

/-
  Slices of fields: read, opened.
-/
namespace Go.Proofs.YtckkmdigmecagaaDoor.Fl
open Go.ChangeShapes Go.WideShapes Go.ChangeAt Go.RowKit Go.Deep

abbrev Fd := List UInt8 × List UInt8
def fdL : List Fd → List Value
  | [] => []
  | f :: fs => strV f.1 :: strV f.2 :: fdL fs
theorem fdL_len : ∀ fs, (fdL fs).length = fs.length * 2
  | [] => rfl
  | f :: fs => by
    have := fdL_len fs
    simp only [fdL, List.length_cons, this]
    omega
theorem fdL_at : ∀ (fs : List Fd) (k : Nat) (f : Fd), fs[k]? = some f → (fdL fs)[k * 2]? = some (strV f.1) ∧ (fdL fs)[k * 2 + 1]? = some (strV f.2)
  | [], k, f, h => by simp at h
  | g :: fs, 0, f, h => by
    obtain rfl : g = f := by simpa using h
    exact ⟨rfl, rfl⟩
  | g :: fs, k + 1, f, h => by
    have := fdL_at fs k f (by simpa using h)
    rw [show (k + 1) * 2 = k * 2 + 1 + 1 by omega]
    exact this
/-- A slice of fields. -/
def Fds (w : World) (A : Option Addr) (n c : Nat) (fs : List Fd) : Prop := Rd w 2 A n c (fdL fs)
theorem ef : ElemT Tryd.prog 38 56 (.agg (fdA [] [])) 2 32 := ElemT.of Tryd.underlying38 (by kernel_rfl) rfl (by omega)
section
variable {w w' : World} {A : Option Addr} {n c : Nat} {fs : List Fd}
theorem Fds.len (h : Fds w A n c fs) : fs.length = n := by
  have := Rd.len h
  rw [fdL_len] at this
  omega
theorem Fds.below (h : Fds w A n c fs) (hb : Below w.heap.size w w') : Fds w' A n c fs := Rd.below h hb
theorem Fds.name (h : Fds w A n c fs) {k : Nat} {f : Fd} (hx : fs[k]? = some f) : w.cell? (at_ A (k * 2)) = some (strV f.1) := Rd.cell h _ _ (fdL_at fs k f hx).1
theorem Fds.value (h : Fds w A n c fs) {k : Nat} {f : Fd} (hx : fs[k]? = some f) : w.cell? (at_ A (k * 2 + 1)) = some (strV f.2) := Rd.cell h _ _ (fdL_at fs k f hx).2
theorem at_add2 (A : Option Addr) (m j : Nat) : (at_ A m).add j = at_ A (m + j) := by
  unfold at_
  exact add_of_add _ _ _
theorem Fds.load (h : Fds w A n c fs) {k : Nat} {f : Fd} (hx : fs[k]? = some f) : (loadVar 56 (at_ A (k * 2))).run Tryd.prog w = .ok (.agg (fdA f.1 f.2)) w := by
  have hl := run_loadCells_list (P := Tryd.prog) w (at_ A (k * 2)) [strV f.1, strV f.2] (fun j v hv => by
    rw [at_add2]
    match j, hv with
    | 0, hv => obtain rfl := Option.some.inj hv; exact h.name hx
    | 1, hv => obtain rfl := Option.some.inj hv; exact h.value hx)
  have e : [strV f.1, strV f.2].length = 2 := rfl
  rw [e] at hl
  simp [loadVar, isAgg, run_underlying Tryd.underlying56, sizeOf_run size_fd0, hl, fdA, strV]
theorem Fds.idx (h : Fds w A n c fs) {k : Nat} (hk : k < n) (W : World) : (Instr.indexAt 38 (.slice A n c) (.int .i64 (k : Int))).run Tryd.prog W = .ok (.pointer (some (at_ A (k * 2)))) W :=
  run_index_rd ef (Rd.nil h) (Rd.le h) k hk W
end
theorem cells_str : Tryd.prog.cellsOf 9 = 1 := by kernel_rfl
theorem cells_fd : Tryd.prog.cellsOf 56 = 2 := by kernel_rfl
theorem rd_fields {H : Type} {enc : TypeId × Value → H} {w : World} {a : Option Addr} {len cap : Nat} {d : DataW H} {p : List MemPlace}
    (h : DataW.Trod enc Tryd.prog w 0 (fun _ => true) true 38 (.slice a len cap) d p) : ∃ fs : List Fd, Fds w a len cap fs := by
  obtain ⟨fuel, hf⟩ := h
  rcases open_slice_pairs Tryd.underlying38 Tryd.underlying56 cells_fd rfl rfl cells_str cells_str hf with ⟨hcs, _⟩ | ⟨x, l, c, m, n, V0, V1, D0, D1, P0, P1, hcs, _, hl, hm, hmm, _, hel⟩
  · simp [Value.cells] at hcs
    obtain ⟨rfl, rfl, rfl⟩ := hcs
    exact ⟨[], Rd.nil_ w 2⟩
  · simp [Value.cells] at hcs
    obtain ⟨rfl, rfl, rfl⟩ := hcs
    obtain ⟨ll, hll, hq⟩ := choose_list (Q := fun i (y : Fd) => w.cell? (at_ (some x) (i * 2)) = some (strV y.1) ∧ w.cell? (at_ (some x) (i * 2 + 1)) = some (strV y.2)) len fun i hi => by
      obtain ⟨h0, h1, t0, t1⟩ := hel i (by simp at hmm; omega)
      obtain ⟨s0, e0, _, _⟩ := DataW.trod_string Tryd.underlying9 t0
      obtain ⟨s1, e1, _, _⟩ := DataW.trod_string Tryd.underlying9 t1
      have e0' : V0 i = .string s0 := by simpa using e0
      have e1' : V1 i = .string s1 := by simpa using e1
      rw [e0'] at h0
      rw [e1'] at h1
      refine ⟨(s0.data.toList, s1.data.toList), ?_, ?_⟩
      · rw [at_some, h0]
        cases s0
        simp [strV]
      · rw [at_some, h1]
        cases s1
        simp [strV]
    refine ⟨ll, ⟨by rw [fdL_len, hll], hl, hm, (fun h => by cases h), fun j v hv => ?_⟩⟩
    have hjl : j < ll.length * 2 := by rw [← fdL_len]; exact (List.getElem?_eq_some_iff.1 hv).1
    have hi : j / 2 < ll.length := by omega
    have hx : ll[j / 2]? = some ll[j / 2] := List.getElem?_eq_getElem hi
    obtain ⟨a0, a1⟩ := fdL_at ll _ _ hx
    obtain ⟨b0, b1⟩ := hq _ _ hx
    by_cases hj : j % 2 = 0
    · have e : j = j / 2 * 2 := by omega
      rw [e] at hv ⊢
      rw [a0] at hv
      obtain rfl := Option.some.inj hv
      exact b0
    · have e : j = j / 2 * 2 + 1 := by omega
      rw [e] at hv ⊢
      rw [a1] at hv
      obtain rfl := Option.some.inj hv
      exact b1

end Go.Proofs.YtckkmdigmecagaaDoor.Fl

/-
  A region that draws its order and holds reads beside calls that make memory: it is walked once, in an order of the prover's choice, where each read is as it would be in every world that the region can come to (S), and each call, when it is taken, is the only operation that may come up. Behind a call S may be made narrower.
-/
namespace Go.Proofs.YtckkmdigmecagaaDoor
open Go.RowKit

section
variable {P : Program} {ops : Array Oper} {Q : Exit → Act → World → Prop} {md : Region.Mode}

/-- An operation that is carried out by itself. -/
def solo (o : Oper) : Bool := match o.op with
  | .call { callee := .builtin .len, .. } | .call { callee := .builtin .cap, .. } | .call { callee := .builtin .min, .. } | .call { callee := .builtin .max, .. } => false
  | .call _ | .alloc _ | .box .. | .buildSlice .. | .makeSlice .. | .makeMap .. | .store .. | .mapUpdate .. => true
  | _ => false

/-- The walk, the operations by their numbers. -/
def wpMix (P : Program) (ops : Array Oper) (Q : Exit → Act → World → Prop) : List Nat → (World → Prop) → Act → World → Prop
  | [], _, a, w => Q .normal a w
  | i :: r, S, a, w =>
    match ops[i]? with
    | none => False
    | some o =>
      if Region.wanted o (yielded ops a.tmps) = true then
        (solo o = false ∧ ∃ v, (∀ w', S w' → (execOp a.eval o).run P w' = .ok (.value v) w') ∧ wpMix P ops Q r S (a.put o.dst v) w) ∨
        (solo o = true ∧ o.wp P a w (fun a' w' => S w' ∧ ∃ S' : World → Prop, (∀ x, S' x → S x) ∧ S' w' ∧ wpMix P ops Q r S' a' w') Q)
      else wpMix P ops Q r S (a.put o.dst undef) w

/-- Each read may come up and is apart from what may come ahead of it; each call is the only one that may come up. -/
def mixB (md : Region.Mode) (ops : Array Oper) : List Nat → Array Bool → Bool
  | [], listed => (Region.ready md ops listed).isEmpty
  | i :: r, listed =>
    (match ops[i]? with
     | none => false
     | some o => if solo o then Region.ready md ops listed == [i] else (Region.ready md ops listed).contains i && Region.free md ops listed i) &&
    mixB md ops r (listed.setIfInBounds i true)

theorem anyH_weaken {S S' : World → Prop} (hs : ∀ x, S' x → S x) : ∀ (fuel : Nat) (listed : Array Bool) (a : Act) (w : World), wpAnyH P md ops Q S' fuel listed a w → wpAnyH P md ops Q S fuel listed a w
  | 0, _, _, _, h => h
  | fuel + 1, _, _, _, h => ⟨h.1, fun i hi => wpOp_mono (fun a' w' h' => ⟨hs _ h'.1, anyH_weaken hs fuel _ a' w' h'.2⟩) (h.2 i hi)⟩

theorem mix_anyH (hns : Region.noSelect ops = true) (hQ : ∀ c a d v w, Q (.panic c) (Act.put a d v) w → Q (.panic c) a w) :
    ∀ (l : List Nat) (listed : Array Bool) (S : World → Prop) (a : Act) (w : World), mixB md ops l listed = true → S w → wpMix P ops Q l S a w → wpAnyH P md ops Q S l.length listed a w
  | [], listed, S, a, w, hB, _, h => ⟨by simpa [mixB] using hB, h⟩
  | i :: r, listed, S, a, w, hB, hS, h => by
    rw [mixB, Bool.and_eq_true] at hB
    obtain ⟨h1, h2⟩ := hB
    rw [wpMix] at h
    cases ho : ops[i]? with
    | none => simp [ho] at h1
    | some o =>
      simp only [ho] at h h1
      by_cases hw : Region.wanted o (yielded ops a.tmps) = true
      · rw [if_pos hw] at h
        rcases h with ⟨hso, v, hv, hr⟩ | ⟨hso, hwp⟩
        · simp only [hso, Bool.false_eq_true, if_false, Bool.and_eq_true] at h1
          exact wpAnyH_first ho (Region.noSelect_spec hns) (fun c a w => hQ c a o.dst v w) r.length listed a w (Region.free_spec ho h1.2) (by simpa using h1.1) (.inl ⟨hw, hv⟩) hS
            (mix_anyH hns hQ r _ S _ w h2 hS hr)
        · simp only [hso, if_true, beq_iff_eq] at h1
          refine ⟨fun h0 => (by rw [h1] at h0; cases h0), fun j hj => ?_⟩
          rw [h1] at hj
          obtain rfl : j = i := by simpa using hj
          unfold wpOp
          simp only [ho, hw, if_true]
          refine .inl (Oper.wp_mono (fun a' w' ⟨hs1, S', hs2, hs3, hm⟩ => ⟨hs1, anyH_weaken hs2 _ _ _ _ (mix_anyH hns hQ r _ S' a' w' h2 hs3 hm)⟩) hwp)
      · rw [if_neg hw] at h
        have hr := mix_anyH hns hQ r _ S _ w h2 hS h
        by_cases hso : solo o = true
        · simp only [hso, if_true, beq_iff_eq] at h1
          refine ⟨fun h0 => (by rw [h1] at h0; cases h0), fun j hj => ?_⟩
          rw [h1] at hj
          obtain rfl : j = i := by simpa using hj
          unfold wpOp
          simp only [ho, hw, Bool.false_eq_true, if_false]
          exact ⟨hS, hr⟩
        · simp only [hso, Bool.false_eq_true, if_false, Bool.and_eq_true] at h1
          exact wpAnyH_first ho (Region.noSelect_spec hns) (fun c a w => hQ c a o.dst undef w) r.length listed a w (Region.free_spec ho h1.2) (by simpa using h1.1) (.inr ⟨by simpa using hw, rfl⟩) hS hr

theorem wp_region_mix {id : Nat} {a : Act} {w : World} (l : List Nat) (S : World → Prop) (hm : P.follows .mixedOrders = true) (hns : Region.noSelect ops = true) (hlen : l.length = ops.size) (hB : mixB .any ops l (Array.replicate ops.size false) = true)
    (hQ : ∀ c a d v w, Q (.panic c) (Act.put a (some d) v) w → Q (.panic c) a w) (hS : S w.drew) (h : wpMix P ops Q l S a w.drew) : (Code.region id ops true).wp P Q a w :=
  wp_region_held (S := S) hm (by
    have := mix_anyH hns (fun c a d v w hp => match d, hp with | none, hp => hp | some d, hp => hQ c a d v w hp) l (Array.replicate ops.size false) S a w.drew hB hS h
    rw [hlen] at this
    exact this)

/-- What runs to a value, if to anything. -/
def IsVal (s : Sem Next) : Prop := ∀ (P : Program) (w w' : World) (r : Next), s.run P w = .ok r w' → ∃ v, r = .value v
theorem isVal_of (s : Sem Value) : IsVal (do pure (.value (← s))) := by
  intro P w w' r h
  rw [Sem.run_bind] at h
  cases hs : s.run P w with
  | ok v w1 =>
    rw [hs] at h
    simp only [Result.andThen_ok, Sem.run_pure, Result.ok.injEq] at h
    exact ⟨v, h.1.symm⟩
  | halt x w1 =>
    rw [hs] at h
    cases h
/-- An operation that only reads. -/
def reads (o : Oper) : Bool := match o.op with
  | .move _ | .assign _ | .pick .. | .load .. | .binOp .. | .unOp .. | .convert .. | .field .. | .fieldAddr .. | .index .. | .indexAddr .. | .slice .. | .extract .. | .makeInterface .. | .build .. | .lookup .. | .sliceToArrayPointer .. => true
  | .call { callee := .builtin .len, .. } | .call { callee := .builtin .cap, .. } | .call { callee := .builtin .min, .. } | .call { callee := .builtin .max, .. } => true
  | _ => false
theorem isVal_pure (v : Value) : IsVal (pure (.value v)) := by
  intro P w w' r h
  simp only [Sem.run_pure, Result.ok.injEq] at h
  exact ⟨v, h.1.symm⟩
theorem isVal_reads (ρ : Operand → Value) (o : Oper) (h : reads o = true) : IsVal (execOp ρ o) := by
  obtain ⟨dst, op, type, pos, after, guard⟩ := o
  cases op with
  | move x => exact isVal_pure _
  | assign x => exact isVal_pure _
  | pick c a b =>
    intro P w w' r h
    have e : execOp ρ { dst, op := .pick c a b, type, pos, after, guard } = (do pure (.value (if ← asBool (ρ c) then ρ a else ρ b))) := rfl
    rw [e, Sem.run_bind] at h
    cases hs : (asBool (ρ c)).run P w with
    | ok v w1 =>
      rw [hs] at h
      simp only [Result.andThen_ok, Sem.run_pure, Result.ok.injEq] at h
      exact ⟨_, h.1.symm⟩
    | halt x w1 =>
      rw [hs] at h
      cases h
  | load t a => exact isVal_of _
  | binOp a b c d e => exact isVal_of _
  | unOp a b c => exact isVal_of _
  | convert a b c => exact isVal_of _
  | field a b c => exact isVal_of _
  | fieldAddr a b c => exact isVal_of _
  | index a b c => exact isVal_of _
  | indexAddr a b c => exact isVal_of _
  | slice a b c d e => exact isVal_of _
  | extract a b => exact isVal_of _
  | makeInterface a b => exact isVal_of _
  | build a b => exact isVal_of _
  | lookup a b c d => exact isVal_of _
  | sliceToArrayPointer a b => exact isVal_of _
  | call c =>
    obtain ⟨callee, args, ats⟩ := c
    cases callee with
    | builtin b =>
      rw [BigFrame.execOp_builtin]
      cases b <;> first
        | (exfalso; simp [reads] at h; done)
        | (rw [BigFrame.builtin_len]; exact isVal_of _)
        | (rw [BigFrame.builtin_cap]; exact isVal_of _)
        | (rw [BigFrame.builtin_min]; exact isVal_of _)
        | (rw [BigFrame.builtin_max]; exact isVal_of _)
    | value f => simp [reads] at h
    | invoke r m => simp [reads] at h
  | _ => simp [reads] at h
theorem reads_solo {o : Oper} (h : reads o = true) : solo o = false := by
  obtain ⟨dst, op, type, pos, after, guard⟩ := o
  unfold reads at h
  unfold solo
  split at h <;> first | rfl | simp_all

/-- One read, by the quiet walk's own step. -/
theorem mix_read {i : Nat} {o : Oper} {r : List Nat} {S : World → Prop} {a : Act} {w : World} (ho : ops[i]? = some o) (hrd : reads o = true)
    (h : wpQuiet P ops S (fun a' => wpMix P ops Q r S a' w) [o] a) : wpMix P ops Q (i :: r) S a w := by
  rw [wpMix]
  simp only [ho]
  unfold wpQuiet at h
  split
  · rename_i hw
    rw [if_pos hw] at h
    obtain ⟨v, hv, hn⟩ := h
    refine .inl ⟨reads_solo hrd, v, fun w' hS => ?_, hn⟩
    have h1 := hv w' hS
    unfold Oper.quietAt at h1
    have h2 := isVal_reads a.eval o hrd P w'
    generalize (execOp a.eval o).run P w' = res at *
    cases res with
    | ok n x =>
      obtain ⟨u, rfl⟩ := h2 x n rfl
      simp only [Oper.quietUpon] at h1
      obtain ⟨rfl, rfl⟩ := h1
      rfl
    | halt y x => simp only [Oper.quietUpon] at h1
  · rename_i hw
    rw [if_neg hw] at h
    exact h
/-- A load, a build, whose run is known in each such world. -/
theorem mix_load {i : Nat} {o : Oper} {r : List Nat} {S : World → Prop} {a : Act} {w : World} (ho : ops[i]? = some o) {ty : TypeId} {x : Operand} (hop : o.op = .load ty x) (hw : Region.wanted o (yielded ops a.tmps) = true) (ad : Addr) (hx : a.eval x = .pointer (some ad)) (v : Value) (hrun : ∀ w', S w' → (loadVar ty ad).run P w' = .ok v w')
    (h : wpMix P ops Q r S (a.put o.dst v) w) : wpMix P ops Q (i :: r) S a w := by
  rw [wpMix]
  simp only [ho, hw, if_true]
  refine .inl ⟨by unfold solo; rw [hop], v, fun w' hS => ?_, h⟩
  unfold execOp
  simp only [hop, hx, Instr.loadAt, Instr.sureAddr, Sem.run_bind, Sem.run_pure, Result.andThen_ok, hrun w' hS]
theorem mix_build {i : Nat} {o : Oper} {r : List Nat} {S : World → Prop} {a : Act} {w : World} (ho : ops[i]? = some o) {ty : TypeId} {parts : Array (Nat × Operand)} (hop : o.op = .build ty parts) (hw : Region.wanted o (yielded ops a.tmps) = true) (vs : Array (Nat × Value)) (hx : (parts.map fun (i, x) => (i, a.eval x)) = vs) (v : Value) (hrun : ∀ w', S w' → (Instr.build ty vs).run P w' = .ok v w')
    (h : wpMix P ops Q r S (a.put o.dst v) w) : wpMix P ops Q (i :: r) S a w := by
  rw [wpMix]
  simp only [ho, hw, if_true]
  refine .inl ⟨by unfold solo; rw [hop], v, fun w' hS => ?_, h⟩
  unfold execOp
  simp only [hop, hx, Sem.run_bind, Sem.run_pure, Result.andThen_ok, hrun w' hS]
theorem mix_arr {i : Nat} {o : Oper} {r : List Nat} {S : World → Prop} {a : Act} {w : World} (ho : ops[i]? = some o) {ty : TypeId} {x : Operand} (hop : o.op = .sliceToArrayPointer ty x) (hw : Region.wanted o (yielded ops a.tmps) = true) (u : Value) (hx : a.eval x = u) (v : Value) (hrun : ∀ w', S w' → (Instr.arrayAt ty u).run P w' = .ok v w')
    (h : wpMix P ops Q r S (a.put o.dst v) w) : wpMix P ops Q (i :: r) S a w := by
  rw [wpMix]
  simp only [ho, hw, if_true]
  refine .inl ⟨by unfold solo; rw [hop], v, fun w' hS => ?_, h⟩
  unfold execOp
  simp only [hop, hx, Sem.run_bind, Sem.run_pure, Result.andThen_ok, hrun w' hS]
theorem mix_done {S : World → Prop} {a : Act} {w : World} (h : Q .normal a w) : wpMix P ops Q [] S a w := h
/-- One call that is not reached. -/
theorem mix_skip {i : Nat} {o : Oper} {r : List Nat} {S : World → Prop} {a : Act} {w : World} (ho : ops[i]? = some o) (hw : Region.wanted o (yielded ops a.tmps) = false) (h : wpMix P ops Q r S (a.put o.dst undef) w) : wpMix P ops Q (i :: r) S a w := by
  rw [wpMix]
  simp only [ho, hw, Bool.false_eq_true, if_false]
  exact h
/-- One call. -/
theorem mix_call {i : Nat} {o : Oper} {r : List Nat} {S : World → Prop} {a : Act} {w : World} (ho : ops[i]? = some o) (hso : solo o = true) (hw : Region.wanted o (yielded ops a.tmps) = true)
    (h : ∀ K : Act → World → Prop, (∀ (S' : World → Prop) a' w', S w' → (∀ x, S' x → S x) → S' w' → wpMix P ops Q r S' a' w' → K a' w') → o.wp P a w K Q) : wpMix P ops Q (i :: r) S a w := by
  rw [wpMix]
  simp only [ho, hw, if_true]
  exact .inr ⟨hso, h _ (fun S' a' w' h1 h2 h3 h4 => ⟨h1, S', h2, h3, h4⟩)⟩
end

/-! ### The worlds in which all that stood stands -/
structure Later (W : World) where
  at' : World
  below : Below W.heap.size W at'
instance (W : World) : Nonempty (Later W) := ⟨⟨W, Below.refl _ _⟩⟩

section
variable {P : Program} {ops : Array Oper} {Q : Exit → Act → World → Prop} {md : Region.Mode}

theorem wp_region_mixb {id : Nat} {a : Act} {w : World} (l : List Nat) (hm : P.follows .mixedOrders = true) (hns : Region.noSelect ops = true) (hlen : l.length = ops.size) (hB : mixB .any ops l (Array.replicate ops.size false) = true)
    (hQ : ∀ c a d v w, Q (.panic c) (Act.put a (some d) v) w → Q (.panic c) a w) (h : wpMix P ops Q l (fun x => ∃ b : Later w, x = b.at') a w.drew) : (Code.region id ops true).wp P Q a w :=
  wp_region_mix l _ hm hns hlen hB hQ ⟨⟨w.drew, (Below.refl _ _).drew⟩, rfl⟩ h

/-- One call; what stood when it came back stands from then on. -/
theorem mixb_call {i : Nat} {o : Oper} {r : List Nat} {W : World} {a : Act} {w : World} (ho : ops[i]? = some o) (hso : solo o = true) (hw : Region.wanted o (yielded ops a.tmps) = true)
    (h : ∀ K : Act → World → Prop, (∀ a' w', Below W.heap.size W w' → wpMix P ops Q r (fun x => ∃ b : Later w', x = b.at') a' w' → K a' w') → o.wp P a w K Q) : wpMix P ops Q (i :: r) (fun x => ∃ b : Later W, x = b.at') a w :=
  mix_call ho hso hw fun K hK => h K fun a' w' hb hn =>
    hK (fun x => ∃ b : Later w', x = b.at') a' w' ⟨⟨w', hb⟩, rfl⟩ (fun x ⟨b, e⟩ => ⟨⟨x, by subst e; exact hb.trans (b.below.mono hb.size)⟩, rfl⟩) ⟨⟨w', Below.refl _ _⟩, rfl⟩ hn
/-- One call; the facts of the beginning stay in use. -/
theorem mixb_call_as {i : Nat} {o : Oper} {r : List Nat} {W : World} {a : Act} {w : World} (ho : ops[i]? = some o) (hso : solo o = true) (hw : Region.wanted o (yielded ops a.tmps) = true)
    (h : ∀ K : Act → World → Prop, (∀ a' w', Below W.heap.size W w' → wpMix P ops Q r (fun x => ∃ b : Later W, x = b.at') a' w' → K a' w') → o.wp P a w K Q) : wpMix P ops Q (i :: r) (fun x => ∃ b : Later W, x = b.at') a w :=
  mix_call ho hso hw fun K hK => h K fun a' w' hb hn => hK _ a' w' ⟨⟨w', hb⟩, rfl⟩ (fun _ h => h) ⟨⟨w', hb⟩, rfl⟩ hn
end

end Go.Proofs.YtckkmdigmecagaaDoor

/-
  Regions that draw their order, once more (see Mix): here a call that leaves the world as it is, and hands back a value that hangs on no world, counts as a read: it need not be the only operation that may come up.
-/
namespace Go.Proofs.YtckkmdigmecagaaDoor
open Go.RowKit

section
variable {P : Program} {ops : Array Oper} {Q : Exit → Act → World → Prop} {md : Region.Mode} {S : World → Prop}

/-- What was run handed back v and left w. -/
def YR (P : Program) (w : World) (v : Value) : Result Next → Prop
  | .ok (.value u) w' => u = v ∧ w' = w
  | .ok (.enter f args) w' => w' = w ∧ Calls P f args w fun e w'' => e = .returned v ∧ w'' = w
  | _ => False
/-- Whenever it comes up in a world of S, it does so; or it is not reached. -/
def YC (P : Program) (ops : Array Oper) (S : World → Prop) (o : Oper) (v : Value) (a : Act) : Prop :=
  (Region.wanted o (yielded ops a.tmps) = true ∧ ∀ w, S w → YR P w v ((execOp a.eval o).run P w)) ∨ (Region.wanted o (yielded ops a.tmps) = false ∧ v = undef)
theorem YC.same {o : Oper} {v : Value} {a a' : Act} (hy : YC P ops S o v a) (he : execOp a'.eval o = execOp a.eval o) (hw : Region.wanted o (yielded ops a'.tmps) = Region.wanted o (yielded ops a.tmps)) : YC P ops S o v a' := by
  unfold YC at *
  rwa [he, hw]
theorem YC.go {i : Nat} {o : Oper} {v : Value} {a : Act} (hi : ops[i]? = some o) (hy : YC P ops S o v a) {K : Act → World → Prop} {w : World} (hS : S w) (h : K (a.put o.dst v) w) : wpOp P ops Q i K a w := by
  unfold wpOp
  rw [hi]
  dsimp only
  rcases hy with ⟨hw, hr⟩ | ⟨hw, rfl⟩
  · rw [if_pos hw]
    left
    have hr := hr w hS
    unfold Oper.wp
    generalize (execOp a.eval o).run P w = res at hr
    match res, hr with
    | .ok (.value u) w', hr =>
      obtain ⟨rfl, rfl⟩ := hr
      exact h
    | .ok (.enter f args) w', hr =>
      obtain ⟨rfl, hc⟩ := hr
      rw [Oper.upon_enter]
      refine hc.mono ?_
      rintro e w2 ⟨rfl, rfl⟩
      exact h
  · rw [if_neg (by rw [hw]; decide)]
    exact h
/-- Another operation, apart from it, comes up ahead of it. -/
theorem YC.swap {j : Nat} {oi oj : Oper} {v : Value} (hj : ops[j]? = some oj) (hap : oi.apart ops oj = true) (si : ∀ cs b, oi.op ≠ .select cs b) (sj : ∀ cs b, oj.op ≠ .select cs b)
    (hQ : ∀ c a w, Q (.panic c) (a.put oi.dst v) w → Q (.panic c) a w) {K : Act → World → Prop} {a : Act} {w : World} (hy : YC P ops S oi v a) (h : wpOp P ops Q j K (a.put oi.dst v) w) :
    wpOp P ops Q j (fun a' w' => YC P ops S oi v a' ∧ K (a'.put oi.dst v) w') a w := by
  obtain ⟨p1, p2, p3⟩ := Oper.apart_spec hap
  have k1 : ∀ (b : Act) (u : Value), YC P ops S oi v b → YC P ops S oi v (b.put oj.dst u) := fun b u hb => hb.same (execOp_put oi si b oj.dst u p3) (wanted_put oi b oj.dst u p3)
  have k2 : ∀ (b : Act) (u : Value), K ((b.put oi.dst v).put oj.dst u) w → K ((b.put oj.dst u).put oi.dst v) w := fun b u hb => by rwa [← Act.put_comm b v u p2]
  unfold wpOp at *
  rw [hj] at *
  dsimp only at *
  rw [wanted_put oj a oi.dst v p1] at h
  by_cases hw : Region.wanted oj (yielded ops a.tmps) = true
  · rw [if_pos hw] at h ⊢
    rcases h with h | ⟨h1, h2⟩
    · left
      unfold Oper.wp at *
      rw [execOp_put oj sj a oi.dst v p1] at h
      generalize (execOp a.eval oj).run P w = res at *
      match res, h with
      | .ok (.value u) w', h => exact ⟨k1 _ _ hy, by rw [← Act.put_comm a v u p2]; exact h⟩
      | .ok .skip w', h => exact ⟨k1 _ _ hy, by rw [← Act.put_comm a v undef p2]; exact h⟩
      | .ok (.defer d) w', h => exact ⟨k1 _ _ (hy.same rfl rfl), by rw [← Act.put_comm _ v undef p2, ← Act.put_defers]; exact h⟩
      | .ok (.enter f args) w', h =>
        rw [Oper.upon_enter] at h ⊢
        refine h.mono fun e w2 he => ?_
        match e, he with
        | .returned u, he => exact ⟨k1 _ _ hy, by rw [← Act.put_comm a v u p2]; exact he⟩
        | .panicked c, he => exact hQ _ _ _ he
        | .outgrown, he => exact he
      | .ok (.row r args) w', h =>
        rw [Oper.upon_row] at h ⊢
        exact Rows.mono h fun u w2 he => ⟨k1 _ _ hy, by rw [← Act.put_comm a v u p2]; exact he⟩
      | .halt (.panic u) w', h => exact hQ _ _ _ h
    · right
      refine ⟨?_, h2⟩
      unfold Oper.asks at *
      rwa [execOp_put oj sj a oi.dst v p1] at h1
  · rw [if_neg hw] at h ⊢
    exact ⟨k1 _ _ hy, k2 _ _ h⟩

theorem YC.first {i : Nat} {oi : Oper} {v : Value} (hi : ops[i]? = some oi) (hsel : ∀ (j : Nat) (o : Oper) cs b, ops[j]? = some o → o.op ≠ .select cs b) (hQ : ∀ c a w, Q (.panic c) (a.put oi.dst v) w → Q (.panic c) a w) :
    ∀ (fuel : Nat) (listed : Array Bool) (a : Act) (w : World), (∀ j oj, ops[j]? = some oj → j ≠ i → listed.getD j true = false → (∀ e ∈ oj.after, Region.binds md e = true → e.on ≠ i) → oi.apart ops oj = true) →
      i ∈ Region.ready md ops listed → YC P ops S oi v a → S w → wpAnyH P md ops Q S fuel (listed.setIfInBounds i true) (a.put oi.dst v) w → wpAnyH P md ops Q S (fuel + 1) listed a w
  | fuel, listed, a, w, hfree, hr, hy, hS, H => by
    refine ⟨fun h0 => (by rw [h0] at hr; cases hr), fun j hj => ?_⟩
    by_cases e : j = i
    · subst e
      exact hy.go hi hS ⟨hS, H⟩
    · match fuel, H with
      | 0, H =>
        have := ready_mono hj e
        rw [H.1] at this
        cases this
      | fuel + 1, H =>
        obtain ⟨hun, oj, hoj, hall⟩ := mem_ready.1 hj
        have hun2 := (mem_ready.1 hr).1
        have hno : ∀ x ∈ oj.after, Region.binds md x = true → x.on ≠ i := by
          intro x hx hb hxi
          have h1 := hall x hx hb
          rw [hxi] at h1
          by_cases hlt : i < listed.size
          · simp [hlt] at h1 hun2
            rw [h1] at hun2
            cases hun2
          · simp [Array.getElem?_eq_none (Nat.le_of_not_lt hlt)] at h1
        have h2 := YC.swap hoj (hfree j oj hoj e hun hno) (fun cs b => hsel i oi cs b hi) (fun cs b => hsel j oj cs b hoj) hQ hy (H.2 j (ready_mono hj e))
        refine wpOp_mono (fun a' w' h3 => ⟨h3.2.1, YC.first hi hsel hQ fuel (listed.setIfInBounds j true) a' w' ?_ (ready_mono hr (Ne.symm e)) h3.1 h3.2.1 ?_⟩) h2
        · intro k ok hk hki hku hkn
          refine hfree k ok hk hki ?_ hkn
          by_cases hjk : j = k
          · subst hjk
            exact hun
          · rwa [getD_set_ne true hjk] at hku
        · rw [Array.setIfInBounds_comm _ _ e]
          exact h3.2.2

/-- One operation, as in a walk in the order of the text. -/
def wpOne (P : Program) (ops : Array Oper) (Q : Exit → Act → World → Prop) (o : Oper) (K : Act → World → Prop) (a : Act) (w : World) : Prop :=
  if Region.wanted o (yielded ops a.tmps) = true then o.wp P a w K Q ∨ (o.asks P a w ∧ LetsOut Q) else K (a.put o.dst undef) w
/-- The walk: the operations by their numbers; with true: one that must be the only one that may come up. -/
def wpMixC (P : Program) (ops : Array Oper) (Q : Exit → Act → World → Prop) : List (Nat × Bool) → (World → Prop) → Act → World → Prop
  | [], _, a, w => Q .normal a w
  | (i, b) :: r, S, a, w =>
    match ops[i]? with
    | none => False
    | some o =>
      if b then wpOne P ops Q o (fun a' w' => S w' ∧ ∃ S' : World → Prop, (∀ x, S' x → S x) ∧ S' w' ∧ wpMixC P ops Q r S' a' w') a w
      else ∃ v, YC P ops S o v a ∧ wpMixC P ops Q r S (a.put o.dst v) w

def mixCB (md : Region.Mode) (ops : Array Oper) : List (Nat × Bool) → Array Bool → Bool
  | [], listed => (Region.ready md ops listed).isEmpty
  | (i, b) :: r, listed =>
    (match ops[i]? with
     | none => false
     | some _ => if b then Region.ready md ops listed == [i] else (Region.ready md ops listed).contains i && Region.free md ops listed i) &&
    mixCB md ops r (listed.setIfInBounds i true)

theorem mixc_anyH (hns : Region.noSelect ops = true) (hQ : ∀ c a d v w, Q (.panic c) (Act.put a d v) w → Q (.panic c) a w) :
    ∀ (l : List (Nat × Bool)) (listed : Array Bool) (S : World → Prop) (a : Act) (w : World), mixCB md ops l listed = true → S w → wpMixC P ops Q l S a w → wpAnyH P md ops Q S l.length listed a w
  | [], listed, S, a, w, hB, _, h => ⟨by simpa [mixCB] using hB, h⟩
  | (i, b) :: r, listed, S, a, w, hB, hS, h => by
    rw [mixCB, Bool.and_eq_true] at hB
    obtain ⟨h1, h2⟩ := hB
    rw [wpMixC] at h
    cases ho : ops[i]? with
    | none => simp [ho] at h1
    | some o =>
      simp only [ho] at h h1
      cases b with
      | false =>
        simp only [Bool.false_eq_true, if_false, Bool.and_eq_true] at h h1
        obtain ⟨v, hy, hr⟩ := h
        exact YC.first ho (Region.noSelect_spec hns) (fun c a w => hQ c a o.dst v w) r.length listed a w (Region.free_spec ho h1.2) (by simpa using h1.1) hy hS (mixc_anyH hns hQ r _ S _ w h2 hS hr)
      | true =>
        simp only [if_true, beq_iff_eq] at h h1
        refine ⟨fun h0 => (by rw [h1] at h0; cases h0), fun j hj => ?_⟩
        rw [h1] at hj
        obtain rfl : j = i := by simpa using hj
        have e : ∀ K, wpOne P ops Q o K a w → wpOp P ops Q j K a w := by
          intro K hK
          unfold wpOp
          rw [ho]
          exact hK
        refine e _ ?_
        have h3 : ∀ a' w', (S w' ∧ ∃ S' : World → Prop, (∀ x, S' x → S x) ∧ S' w' ∧ wpMixC P ops Q r S' a' w') → S w' ∧ wpAnyH P md ops Q S r.length (listed.setIfInBounds j true) a' w' := fun a' w' ⟨hs1, S', hs2, hs3, hm⟩ =>
          ⟨hs1, anyH_weaken hs2 _ _ _ _ (mixc_anyH hns hQ r _ S' a' w' h2 hs3 hm)⟩
        unfold wpOne at h ⊢
        split at h
        · rename_i hw
          rw [if_pos hw]
          exact h.imp (Oper.wp_mono h3) id
        · rename_i hw
          rw [if_neg hw]
          exact h3 _ _ h

theorem wp_region_mixg {id : Nat} {a : Act} {w : World} (l : List (Nat × Bool)) (S : World → Prop) (hm : P.follows .mixedOrders = true) (hns : Region.noSelect ops = true) (hlen : l.length = ops.size) (hB : mixCB .any ops l (Array.replicate ops.size false) = true)
    (hQ : ∀ c a d v w, Q (.panic c) (Act.put a (some d) v) w → Q (.panic c) a w) (hS : S w.drew) (h : wpMixC P ops Q l S a w.drew) : (Code.region id ops true).wp P Q a w :=
  wp_region_held (S := S) hm (by
    have := mixc_anyH hns (fun c a d v w hp => match d, hp with | none, hp => hp | some d, hp => hQ c a d v w hp) l (Array.replicate ops.size false) _ a w.drew hB hS h
    rw [hlen] at this
    exact this)
theorem wp_region_mixc {id : Nat} {a : Act} {w : World} (l : List (Nat × Bool)) (hm : P.follows .mixedOrders = true) (hns : Region.noSelect ops = true) (hlen : l.length = ops.size) (hB : mixCB .any ops l (Array.replicate ops.size false) = true)
    (hQ : ∀ c a d v w, Q (.panic c) (Act.put a (some d) v) w → Q (.panic c) a w) (h : wpMixC P ops Q l (fun x => ∃ b : Later w, x = b.at') a w.drew) : (Code.region id ops true).wp P Q a w :=
  wp_region_held (S := fun x => ∃ b : Later w, x = b.at') hm (by
    have := mixc_anyH hns (fun c a d v w hp => match d, hp with | none, hp => hp | some d, hp => hQ c a d v w hp) l (Array.replicate ops.size false) _ a w.drew hB ⟨⟨w.drew, (Below.refl _ _).drew⟩, rfl⟩ h
    rw [hlen] at this
    exact this)

/-- The numbers up to n, those of s alone. -/
def mixL (n : Nat) (s : List Nat) : List (Nat × Bool) := (List.range n).map fun i => (i, s.contains i)

theorem mixc_read {i : Nat} {o : Oper} {r : List (Nat × Bool)} {a : Act} {w : World} (ho : ops[i]? = some o) (hrd : reads o = true)
    (h : wpQuiet P ops S (fun a' => wpMixC P ops Q r S a' w) [o] a) : wpMixC P ops Q ((i, false) :: r) S a w := by
  rw [wpMixC]
  simp only [ho, Bool.false_eq_true, if_false]
  unfold wpQuiet at h
  split at h
  · rename_i hw
    obtain ⟨v, hv, hn⟩ := h
    refine ⟨v, .inl ⟨hw, fun w' hS => ?_⟩, hn⟩
    have h1 := hv w' hS
    unfold Oper.quietAt at h1
    have h2 := isVal_reads a.eval o hrd P w'
    generalize (execOp a.eval o).run P w' = res at *
    cases res with
    | ok n x =>
      obtain ⟨u, rfl⟩ := h2 x n rfl
      simp only [Oper.quietUpon] at h1
      exact ⟨h1.2, h1.1⟩
    | halt y x => simp only [Oper.quietUpon] at h1
  · rename_i hw
    exact ⟨undef, .inr ⟨by simpa using hw, rfl⟩, h⟩
/-- A load, a build, whose run is known in each such world. -/
theorem mixc_run {i : Nat} {o : Oper} {r : List (Nat × Bool)} {a : Act} {w : World} (ho : ops[i]? = some o) (hw : Region.wanted o (yielded ops a.tmps) = true) (v : Value) (hrun : ∀ w', S w' → (execOp a.eval o).run P w' = .ok (.value v) w')
    (h : wpMixC P ops Q r S (a.put o.dst v) w) : wpMixC P ops Q ((i, false) :: r) S a w := by
  rw [wpMixC]
  simp only [ho, Bool.false_eq_true, if_false]
  exact ⟨v, .inl ⟨hw, fun w' hS => by rw [hrun w' hS]; exact ⟨rfl, rfl⟩⟩, h⟩
/-- A quiet call. -/
theorem mixc_quiet {i : Nat} {o : Oper} {r : List (Nat × Bool)} {a : Act} {w : World} (ho : ops[i]? = some o) (hw : Region.wanted o (yielded ops a.tmps) = true) {f : FuncId} {args : Array Value} (v : Value) (hc : ∀ W, (execOp a.eval o).run P W = .ok (.enter f args) W) (hrun : ∀ w', S w' → Calls P f args w' fun e w'' => e = .returned v ∧ w' = w'')
    (h : wpMixC P ops Q r S (a.put o.dst v) w) : wpMixC P ops Q ((i, false) :: r) S a w := by
  rw [wpMixC]
  simp only [ho, Bool.false_eq_true, if_false]
  exact ⟨v, .inl ⟨hw, fun w' hS => by rw [hc w']; exact ⟨rfl, (hrun w' hS).mono fun _ _ ⟨h1, h2⟩ => ⟨h1, h2.symm⟩⟩⟩, h⟩
/-- One that is not reached. -/
theorem mixc_skip {i : Nat} {o : Oper} {r : List (Nat × Bool)} {a : Act} {w : World} (ho : ops[i]? = some o) (hw : Region.wanted o (yielded ops a.tmps) = false) (h : wpMixC P ops Q r S (a.put o.dst undef) w) : wpMixC P ops Q ((i, false) :: r) S a w := by
  rw [wpMixC]
  simp only [ho, Bool.false_eq_true, if_false]
  exact ⟨undef, .inr ⟨hw, rfl⟩, h⟩
theorem mixc_skip1 {i : Nat} {o : Oper} {r : List (Nat × Bool)} {a : Act} {w : World} (ho : ops[i]? = some o) (hw : Region.wanted o (yielded ops a.tmps) = false) (hS : S w) (h : wpMixC P ops Q r S (a.put o.dst undef) w) : wpMixC P ops Q ((i, true) :: r) S a w := by
  rw [wpMixC]
  simp only [ho, if_true]
  unfold wpOne
  rw [if_neg (by rw [hw]; decide)]
  exact ⟨hS, S, fun _ h => h, hS, h⟩
theorem mixc_done {a : Act} {w : World} (h : Q .normal a w) : wpMixC P ops Q [] S a w := h
/-- One that comes up alone; what stood behind it stands from then on. -/
theorem mixc_call {i : Nat} {o : Oper} {r : List (Nat × Bool)} {W : World} {a : Act} {w : World} (ho : ops[i]? = some o) (hw : Region.wanted o (yielded ops a.tmps) = true)
    (h : ∀ K : Act → World → Prop, (∀ a' w', Below W.heap.size W w' → wpMixC P ops Q r (fun x => ∃ b : Later w', x = b.at') a' w' → K a' w') → o.wp P a w K Q) : wpMixC P ops Q ((i, true) :: r) (fun x => ∃ b : Later W, x = b.at') a w := by
  rw [wpMixC]
  simp only [ho, if_true]
  unfold wpOne
  rw [if_pos hw]
  exact .inl (h _ fun a' w' hb hn => ⟨⟨⟨w', hb⟩, rfl⟩, fun x => ∃ b : Later w', x = b.at', fun x ⟨b, e⟩ => ⟨⟨x, by subst e; exact hb.trans (b.below.mono hb.size)⟩, rfl⟩, ⟨⟨w', Below.refl _ _⟩, rfl⟩, hn⟩)
/-- The same; the facts of the beginning stay in use. -/
theorem mixc_call_as {i : Nat} {o : Oper} {r : List (Nat × Bool)} {W : World} {a : Act} {w : World} (ho : ops[i]? = some o) (hw : Region.wanted o (yielded ops a.tmps) = true)
    (h : ∀ K : Act → World → Prop, (∀ a' w', Below W.heap.size W w' → wpMixC P ops Q r (fun x => ∃ b : Later W, x = b.at') a' w' → K a' w') → o.wp P a w K Q) : wpMixC P ops Q ((i, true) :: r) (fun x => ∃ b : Later W, x = b.at') a w := by
  rw [wpMixC]
  simp only [ho, if_true]
  unfold wpOne
  rw [if_pos hw]
  exact .inl (h _ fun a' w' hb hn => ⟨⟨⟨w', hb⟩, rfl⟩, _, fun _ h => h, ⟨⟨w', hb⟩, rfl⟩, hn⟩)

/-- Q, but for what goes on. -/
def QK (K : Act → World → Prop) (Q : Exit → Act → World → Prop) : Exit → Act → World → Prop
  | .normal, a, w => K a w
  | e, a, w => Q e a w
theorem upon_QK {o : Oper} {a : Act} {K K' : Act → World → Prop} : ∀ {r : Result Next}, o.upon P a K (QK K' Q) r → o.upon P a K Q r
  | .ok (.value _) _, h => h
  | .ok .skip _, h => h
  | .ok (.defer _) _, h => h
  | .ok (.enter f args) w', h => by
    rw [Oper.upon_enter] at h ⊢
    refine Calls.mono h fun e w2 he => ?_
    match e, he with
    | .returned u, he => exact he
    | .panicked c, he => exact he
    | .outgrown, he => exact he
  | .ok (.row _ _) _, h => h
  | .halt (.panic _) _, h => h
/-- One that comes up alone, walked as in a region that does not draw. -/
theorem mixc_one {i : Nat} {o : Oper} {r : List (Nat × Bool)} {a : Act} {w : World} (ho : ops[i]? = some o)
    (h : ∀ K : Act → World → Prop, (∀ a' w', S w' → wpMixC P ops Q r S a' w' → K a' w') → wpList P ops (QK K Q) [o] a w) : wpMixC P ops Q ((i, true) :: r) S a w := by
  rw [wpMixC]
  simp only [ho, if_true]
  obtain ⟨K, hK⟩ : ∃ K : Act → World → Prop, K = fun a' w' => S w' ∧ ∃ S' : World → Prop, (∀ x, S' x → S x) ∧ S' w' ∧ wpMixC P ops Q r S' a' w' := ⟨_, rfl⟩
  rw [← hK]
  have h1 := h K (fun a' w' hs hm => by rw [hK]; exact ⟨hs, S, fun _ h => h, hs, hm⟩)
  unfold wpOne
  unfold wpList at h1
  split at h1
  · rename_i hw
    rw [if_pos hw]
    exact h1.imp (fun h2 => upon_QK h2) id
  · rename_i hw
    rw [if_neg hw]
    exact h1
end

end Go.Proofs.YtckkmdigmecagaaDoor

/-
  Regions that draw their order (see Mix, MixC): a plan with forks, where two operations that make memory may come up in either order.
-/
namespace Go.Proofs.YtckkmdigmecagaaDoor
open Go.RowKit

inductive MPlan where
  | fin
  | read (i : Nat) (p : MPlan)
  | one (i : Nat) (p : MPlan)
  | two (i j : Nat) (p q : MPlan)
  | three (i j k : Nat) (p q r : MPlan)
def MPlan.reads : List Nat → MPlan → MPlan
  | [], p => p
  | i :: l, p => .read i (MPlan.reads l p)

section
variable {P : Program} {ops : Array Oper} {Q : Exit → Act → World → Prop} {md : Region.Mode} {S : World → Prop}

def wpOneAt (P : Program) (ops : Array Oper) (Q : Exit → Act → World → Prop) (i : Nat) (K : Act → World → Prop) (a : Act) (w : World) : Prop :=
  match ops[i]? with
  | none => False
  | some o => wpOne P ops Q o K a w
theorem wpOneAt_op {i : Nat} {K : Act → World → Prop} {a : Act} {w : World} (h : wpOneAt P ops Q i K a w) : wpOp P ops Q i K a w := by
  unfold wpOneAt at h
  unfold wpOp
  cases ho : ops[i]? with
  | none => simp [ho] at h
  | some o =>
    rw [ho] at h
    exact h

def wpPlan (P : Program) (ops : Array Oper) (Q : Exit → Act → World → Prop) (S : World → Prop) : MPlan → Act → World → Prop
  | .fin, a, w => Q .normal a w
  | .read i p, a, w => match ops[i]? with
    | none => False
    | some o => ∃ v, YC P ops S o v a ∧ wpPlan P ops Q S p (a.put o.dst v) w
  | .one i p, a, w => wpOneAt P ops Q i (fun a' w' => S w' ∧ wpPlan P ops Q S p a' w') a w
  | .two i j p q, a, w => wpOneAt P ops Q i (fun a' w' => S w' ∧ wpPlan P ops Q S p a' w') a w ∧ wpOneAt P ops Q j (fun a' w' => S w' ∧ wpPlan P ops Q S q a' w') a w
  | .three i j k p q r, a, w => wpOneAt P ops Q i (fun a' w' => S w' ∧ wpPlan P ops Q S p a' w') a w ∧ wpOneAt P ops Q j (fun a' w' => S w' ∧ wpPlan P ops Q S q a' w') a w ∧ wpOneAt P ops Q k (fun a' w' => S w' ∧ wpPlan P ops Q S r a' w') a w

def planB (md : Region.Mode) (ops : Array Oper) : Nat → MPlan → Array Bool → Bool
  | 0, .fin, listed => (Region.ready md ops listed).isEmpty
  | f + 1, .read i p, listed => (match ops[i]? with
    | none => false
    | some _ => (Region.ready md ops listed).contains i && Region.free md ops listed i) && planB md ops f p (listed.setIfInBounds i true)
  | f + 1, .one i p, listed => (Region.ready md ops listed == [i]) && planB md ops f p (listed.setIfInBounds i true)
  | f + 1, .two i j p q, listed => (Region.ready md ops listed == [i, j]) && planB md ops f p (listed.setIfInBounds i true) && planB md ops f q (listed.setIfInBounds j true)
  | f + 1, .three i j k p q r, listed => (Region.ready md ops listed == [i, j, k]) && planB md ops f p (listed.setIfInBounds i true) && planB md ops f q (listed.setIfInBounds j true) && planB md ops f r (listed.setIfInBounds k true)
  | _, _, _ => false

theorem plan_anyH (hns : Region.noSelect ops = true) (hQ : ∀ c a d v w, Q (.panic c) (Act.put a d v) w → Q (.panic c) a w) :
    ∀ (f : Nat) (p : MPlan) (listed : Array Bool) (a : Act) (w : World), planB md ops f p listed = true → S w → wpPlan P ops Q S p a w → wpAnyH P md ops Q S f listed a w
  | 0, .fin, listed, a, w, hB, _, h => ⟨by simpa [planB] using hB, h⟩
  | f + 1, .read i p, listed, a, w, hB, hS, h => by
    rw [planB, Bool.and_eq_true] at hB
    obtain ⟨h1, h2⟩ := hB
    rw [wpPlan] at h
    cases ho : ops[i]? with
    | none => simp [ho] at h1
    | some o =>
      simp only [ho, Bool.and_eq_true] at h h1
      obtain ⟨v, hy, hr⟩ := h
      exact YC.first ho (Region.noSelect_spec hns) (fun c a w => hQ c a o.dst v w) f listed a w (Region.free_spec ho h1.2) (by simpa using h1.1) hy hS (plan_anyH hns hQ f p _ _ w h2 hS hr)
  | f + 1, .one i p, listed, a, w, hB, hS, h => by
    rw [planB, Bool.and_eq_true, beq_iff_eq] at hB
    obtain ⟨h1, h2⟩ := hB
    refine ⟨fun h0 => (by rw [h1] at h0; cases h0), fun j hj => ?_⟩
    rw [h1] at hj
    obtain rfl : j = i := by simpa using hj
    rw [wpPlan] at h
    exact wpOp_mono (fun a' w' ⟨hs, hp⟩ => ⟨hs, plan_anyH hns hQ f p _ a' w' h2 hs hp⟩) (wpOneAt_op h)
  | f + 1, .two i j p q, listed, a, w, hB, hS, h => by
    rw [planB, Bool.and_eq_true, Bool.and_eq_true, beq_iff_eq] at hB
    obtain ⟨⟨h1, h2⟩, h3⟩ := hB
    refine ⟨fun h0 => (by rw [h1] at h0; cases h0), fun k hk => ?_⟩
    rw [h1] at hk
    rw [wpPlan] at h
    obtain ⟨ha, hb⟩ := h
    have hk2 : k = i ∨ k = j := by simpa using hk
    rcases hk2 with rfl | rfl
    · exact wpOp_mono (fun a' w' ⟨hs, hp⟩ => ⟨hs, plan_anyH hns hQ f p _ a' w' h2 hs hp⟩) (wpOneAt_op ha)
    · exact wpOp_mono (fun a' w' ⟨hs, hp⟩ => ⟨hs, plan_anyH hns hQ f q _ a' w' h3 hs hp⟩) (wpOneAt_op hb)
  | f + 1, .three i j k p q r, listed, a, w, hB, hS, h => by
    rw [planB, Bool.and_eq_true, Bool.and_eq_true, Bool.and_eq_true, beq_iff_eq] at hB
    obtain ⟨⟨⟨h1, h2⟩, h3⟩, h4⟩ := hB
    refine ⟨fun h0 => (by rw [h1] at h0; cases h0), fun m hm => ?_⟩
    rw [h1] at hm
    rw [wpPlan] at h
    obtain ⟨ha, hb, hc⟩ := h
    have hm2 : m = i ∨ m = j ∨ m = k := by simpa using hm
    rcases hm2 with rfl | rfl | rfl
    · exact wpOp_mono (fun a' w' ⟨hs, hp⟩ => ⟨hs, plan_anyH hns hQ f p _ a' w' h2 hs hp⟩) (wpOneAt_op ha)
    · exact wpOp_mono (fun a' w' ⟨hs, hp⟩ => ⟨hs, plan_anyH hns hQ f q _ a' w' h3 hs hp⟩) (wpOneAt_op hb)
    · exact wpOp_mono (fun a' w' ⟨hs, hp⟩ => ⟨hs, plan_anyH hns hQ f r _ a' w' h4 hs hp⟩) (wpOneAt_op hc)
  | 0, .three .., _, _, _, hB, _, _ => by simp [planB] at hB
  | 0, .read .., _, _, _, hB, _, _ => by simp [planB] at hB
  | 0, .one .., _, _, _, hB, _, _ => by simp [planB] at hB
  | 0, .two .., _, _, _, hB, _, _ => by simp [planB] at hB
  | _ + 1, .fin, _, _, _, hB, _, _ => by simp [planB] at hB

theorem wp_region_plan {id : Nat} {a : Act} {w : World} (p : MPlan) (S : World → Prop) (hm : P.follows .mixedOrders = true) (hns : Region.noSelect ops = true) (hB : planB .any ops ops.size p (Array.replicate ops.size false) = true)
    (hQ : ∀ c a d v w, Q (.panic c) (Act.put a (some d) v) w → Q (.panic c) a w) (hS : S w.drew) (h : wpPlan P ops Q S p a w.drew) : (Code.region id ops true).wp P Q a w :=
  wp_region_held (S := S) hm (plan_anyH hns (fun c a d v w hp => match d, hp with | none, hp => hp | some d, hp => hQ c a d v w hp) _ p (Array.replicate ops.size false) a w.drew hB hS h)

theorem plan_read {i : Nat} {o : Oper} {p : MPlan} {a : Act} {w : World} (ho : ops[i]? = some o) (hrd : reads o = true)
    (h : wpQuiet P ops S (fun a' => wpPlan P ops Q S p a' w) [o] a) : wpPlan P ops Q S (.read i p) a w := by
  rw [wpPlan]
  simp only [ho]
  unfold wpQuiet at h
  split at h
  · rename_i hw
    obtain ⟨v, hv, hn⟩ := h
    refine ⟨v, .inl ⟨hw, fun w' hS => ?_⟩, hn⟩
    have h1 := hv w' hS
    unfold Oper.quietAt at h1
    have h2 := isVal_reads a.eval o hrd P w'
    generalize (execOp a.eval o).run P w' = res at *
    cases res with
    | ok n x =>
      obtain ⟨u, rfl⟩ := h2 x n rfl
      simp only [Oper.quietUpon] at h1
      exact ⟨h1.2, h1.1⟩
    | halt y x => simp only [Oper.quietUpon] at h1
  · rename_i hw
    exact ⟨undef, .inr ⟨by simpa using hw, rfl⟩, h⟩
theorem plan_run {i : Nat} {o : Oper} {p : MPlan} {a : Act} {w : World} (ho : ops[i]? = some o) (hw : Region.wanted o (yielded ops a.tmps) = true) (v : Value) (hrun : ∀ w', S w' → (execOp a.eval o).run P w' = .ok (.value v) w')
    (h : wpPlan P ops Q S p (a.put o.dst v) w) : wpPlan P ops Q S (.read i p) a w := by
  rw [wpPlan]
  simp only [ho]
  exact ⟨v, .inl ⟨hw, fun w' hS => by rw [hrun w' hS]; exact ⟨rfl, rfl⟩⟩, h⟩
theorem plan_load {i : Nat} {o : Oper} {p : MPlan} {a : Act} {w : World} (ho : ops[i]? = some o) {ty : TypeId} {x : Operand} (hop : o.op = .load ty x) (hw : Region.wanted o (yielded ops a.tmps) = true) (ad : Addr) (hx : a.eval x = .pointer (some ad)) (v : Value) (hrun : ∀ w', S w' → (loadVar ty ad).run P w' = .ok v w')
    (h : wpPlan P ops Q S p (a.put o.dst v) w) : wpPlan P ops Q S (.read i p) a w :=
  plan_run ho hw v (fun w' hS => by
    unfold execOp
    simp only [hop, hx, Instr.loadAt, Instr.sureAddr, Sem.run_bind, Sem.run_pure, Result.andThen_ok, hrun w' hS]) h
theorem plan_arr {i : Nat} {o : Oper} {p : MPlan} {a : Act} {w : World} (ho : ops[i]? = some o) {ty : TypeId} {x : Operand} (hop : o.op = .sliceToArrayPointer ty x) (hw : Region.wanted o (yielded ops a.tmps) = true) (u : Value) (hx : a.eval x = u) (v : Value) (hrun : ∀ w', (Instr.arrayAt ty u).run P w' = .ok v w')
    (h : wpPlan P ops Q S p (a.put o.dst v) w) : wpPlan P ops Q S (.read i p) a w :=
  plan_run ho hw v (fun w' _ => by
    unfold execOp
    simp only [hop, hx, Sem.run_bind, Sem.run_pure, Result.andThen_ok, hrun w']) h
theorem plan_quiet {i : Nat} {o : Oper} {p : MPlan} {a : Act} {w : World} (ho : ops[i]? = some o) (hw : Region.wanted o (yielded ops a.tmps) = true) {f : FuncId} {args : Array Value} (v : Value) (hc : ∀ W, (execOp a.eval o).run P W = .ok (.enter f args) W) (hrun : ∀ w', S w' → Calls P f args w' fun e w'' => e = .returned v ∧ w' = w'')
    (h : wpPlan P ops Q S p (a.put o.dst v) w) : wpPlan P ops Q S (.read i p) a w := by
  rw [wpPlan]
  simp only [ho]
  exact ⟨v, .inl ⟨hw, fun w' hS => by rw [hc w']; exact ⟨rfl, (hrun w' hS).mono fun _ _ ⟨h1, h2⟩ => ⟨h1, h2.symm⟩⟩⟩, h⟩
theorem plan_skip {i : Nat} {o : Oper} {p : MPlan} {a : Act} {w : World} (ho : ops[i]? = some o) (hw : Region.wanted o (yielded ops a.tmps) = false) (h : wpPlan P ops Q S p (a.put o.dst undef) w) : wpPlan P ops Q S (.read i p) a w := by
  rw [wpPlan]
  simp only [ho]
  exact ⟨undef, .inr ⟨hw, rfl⟩, h⟩
theorem oneAt {i : Nat} {o : Oper} {p : MPlan} {a : Act} {w : World} (ho : ops[i]? = some o)
    (h : ∀ K : Act → World → Prop, (∀ a' w', S w' → wpPlan P ops Q S p a' w' → K a' w') → wpList P ops (QK K Q) [o] a w) : wpOneAt P ops Q i (fun a' w' => S w' ∧ wpPlan P ops Q S p a' w') a w := by
  unfold wpOneAt
  rw [ho]
  dsimp only
  obtain ⟨K, hK⟩ : ∃ K : Act → World → Prop, K = fun a' w' => S w' ∧ wpPlan P ops Q S p a' w' := ⟨_, rfl⟩
  rw [← hK]
  have h1 := h K (fun a' w' hs hm => by rw [hK]; exact ⟨hs, hm⟩)
  unfold wpOne
  unfold wpList at h1
  split at h1
  · rename_i hw
    rw [if_pos hw]
    exact h1.imp (fun h2 => upon_QK h2) id
  · rename_i hw
    rw [if_neg hw]
    exact h1
theorem plan_one {i : Nat} {o : Oper} {p : MPlan} {a : Act} {w : World} (ho : ops[i]? = some o)
    (h : ∀ K : Act → World → Prop, (∀ a' w', S w' → wpPlan P ops Q S p a' w' → K a' w') → wpList P ops (QK K Q) [o] a w) : wpPlan P ops Q S (.one i p) a w := by
  rw [wpPlan]
  exact oneAt ho h
theorem plan_two {i j : Nat} {oi oj : Oper} {p q : MPlan} {a : Act} {w : World} (hi : ops[i]? = some oi) (hj : ops[j]? = some oj)
    (h : ∀ K : Act → World → Prop, (∀ a' w', S w' → wpPlan P ops Q S p a' w' → K a' w') → wpList P ops (QK K Q) [oi] a w)
    (h2 : ∀ K : Act → World → Prop, (∀ a' w', S w' → wpPlan P ops Q S q a' w' → K a' w') → wpList P ops (QK K Q) [oj] a w) : wpPlan P ops Q S (.two i j p q) a w := by
  rw [wpPlan]
  exact ⟨oneAt hi h, oneAt hj h2⟩
theorem plan_three {i j k : Nat} {oi oj ok : Oper} {p q r : MPlan} {a : Act} {w : World} (hi : ops[i]? = some oi) (hj : ops[j]? = some oj) (hk : ops[k]? = some ok)
    (h : ∀ K : Act → World → Prop, (∀ a' w', S w' → wpPlan P ops Q S p a' w' → K a' w') → wpList P ops (QK K Q) [oi] a w)
    (h2 : ∀ K : Act → World → Prop, (∀ a' w', S w' → wpPlan P ops Q S q a' w' → K a' w') → wpList P ops (QK K Q) [oj] a w)
    (h3 : ∀ K : Act → World → Prop, (∀ a' w', S w' → wpPlan P ops Q S r a' w' → K a' w') → wpList P ops (QK K Q) [ok] a w) : wpPlan P ops Q S (.three i j k p q r) a w := by
  rw [wpPlan]
  exact ⟨oneAt hi h, oneAt hj h2, oneAt hk h3⟩
theorem plan_fin {a : Act} {w : World} (h : Q .normal a w) : wpPlan P ops Q S .fin a w := h
end

/-- The worlds in which block g is as it was. -/
structure Keep1 (w : World) (g : Nat) where
  at' : World
  same : at'.heap[g]? = w.heap[g]?
instance (w : World) (g : Nat) : Nonempty (Keep1 w g) := ⟨⟨w, rfl⟩⟩

end Go.Proofs.YtckkmdigmecagaaDoor

/-
  Fields held against each other; begun.
-/
namespace Go.Proofs.YtckkmdigmecagaaDoor.Fl
open Go.RowKit

/-- Are two fields the same? -/
def fdEq (a b a2 b2 : List UInt8) : Bool := (a == a2) && (b == b2)
section
variable {a b a2 b2 : List UInt8}
theorem part_fn (W : World) : (part 9 (fdA a b) 0).run Tryd.prog W = .ok (.string ⟨a.toArray⟩) W := by
  simp [part, isAgg, run_underlying Tryd.underlying9, fdA]
theorem part_fv (W : World) : (part 9 (fdA a b) 1).run Tryd.prog W = .ok (.string ⟨b.toArray⟩) W := by
  simp [part, isAgg, run_underlying Tryd.underlying9, fdA]
theorem equal_fd (W : World) : (Op.equalIn 10000 56 (.agg (fdA a b)) (.agg (fdA a2 b2))).run Tryd.prog W = .ok (fdEq a b a2 b2) W := by
  have hS : Tryd.prog.underlying 56 = some (.struct (Tryd.prog.fieldsOf 56)) := by kernel_rfl
  have hp : Tryd.prog.stoodInHeld 56 = false := by kernel_rfl
  have h1 : (Op.equalIn 9999 9 (.string ⟨a.toArray⟩) (.string ⟨a2.toArray⟩)).run Tryd.prog W = .ok (a == a2) W := by
    rw [show (9999 : Nat) = 9998 + 1 from rfl, run_equalIn_string W 9998 9 _ _ Tryd.underlying9, ByteArray.toList_eq, ByteArray.toList_eq]
  have h2 : (Op.equalIn 9999 9 (.string ⟨b.toArray⟩) (.string ⟨b2.toArray⟩)).run Tryd.prog W = .ok (b == b2) W := by
    rw [show (9999 : Nat) = 9998 + 1 from rfl, run_equalIn_string W 9998 9 _ _ Tryd.underlying9, ByteArray.toList_eq, ByteArray.toList_eq]
  rw [show (10000 : Nat) = 9999 + 1 from rfl, run_equalIn_agg W 9999 56 _ _ hS hp]
  simp only [Program.fieldsOf, Tryd.underlying56]
  unfold fdEq
  generalize (a == a2) = B1 at *
  generalize (b == b2) = B2 at *
  cases B1 <;> cases B2 <;> simp [Op.eqFields, part_fn, part_fv, h1, h2, Result.andThen]
theorem eql_fd (W : World) : (binOp .eql 56 (.agg (fdA a b)) (.agg (fdA a2 b2))).run Tryd.prog W = .ok (.bool (fdEq a b a2 b2)) W := by
  rw [run_eql_struct, equal_fd]
  rfl
end
section
variable {ops : Array Oper} {rest : List Oper} {o : Oper} {a : Act} {Q : Exit → Act → World → Prop} {w : World} {x y x2 y2 : List UInt8}
theorem wpList_eql_fd (hw : Region.wanted o (yielded ops a.tmps) = true) (u v : Operand) (ho : o.op = .binOp .eql 56 u v 56) (hu : a.eval u = .agg (fdA x y)) (hv : a.eval v = .agg (fdA x2 y2))
    (k : wpList Tryd.prog ops Q rest (a.put o.dst (.bool (fdEq x y x2 y2))) w) : wpList Tryd.prog ops Q (o :: rest) a w := by
  refine wpList_taken hw fun K hK => ?_
  have hg := run_eqGuard_agg (P := Tryd.prog) w .eql 56 u v (fdA x y) (fdA x2 y2) (by kernel_rfl)
  unfold Oper.wp execOp
  simp only [ho, hu, hv, Sem.run_bind, Sem.run_pure, Result.andThen_ok, hg, eql_fd w]
  exact hK _ _ k
end
def hostL : List UInt8 := [72, 111, 115, 116, 58, 32, 97, 32]
def closeL : List UInt8 := [67, 108, 111, 115, 101, 44, 32, 44, 98]
theorem line_host : lineR hostL = ([104, 111, 115, 116], [97], 0) := by decide +kernel
theorem words_close : wordsF (split1 44 closeL) = [[99, 108, 111, 115, 101], [98]] := by decide +kernel

end Go.Proofs.YtckkmdigmecagaaDoor.Fl

/-
  Package field and the document's answer: Count, Get.
-/
namespace Go.Proofs.YtckkmdigmecagaaDoor.Fl
open Go.RowKit

def isF (s : List UInt8) (f : Fd) : Bool := f.1 == s
def cntF (fs : List Fd) (s : List UInt8) : Nat := fs.countP (isF s)
def getF (fs : List Fd) (s : List UInt8) : List UInt8 × Int :=
  if cntF fs s = 0 then ([], 5) else if cntF fs s = 1 then (((fs.find? (isF s)).map (·.2)).getD [], 0) else ([], 6)
theorem cnt_succ {fs : List Fd} {k : Nat} {f : Fd} (h : fs[k]? = some f) (s : List UInt8) : cntF (fs.take (k + 1)) s = cntF (fs.take k) s + if isF s f then 1 else 0 := by
  obtain ⟨hk, hf⟩ := List.getElem?_eq_some_iff.1 h
  unfold cntF
  rw [List.take_succ_eq_append_getElem hk, List.countP_append, hf]
  simp [List.countP_cons]
theorem cnt_le (fs : List Fd) (s : List UInt8) : cntF fs s ≤ fs.length := List.countP_le_length
theorem cell_fd {w : World} {g i : Nat} {cs : Array Value} {t : TypeId} {fr : Nat × Nat} {v : Value} (h : w.heap[g]? = some (.cells cs t fr)) (hv : cs[i]? = some v) : w.cell? ⟨g, i, none⟩ = some v := by
  simp [World.cell?, h, hv]
theorem find_at {fs : List Fd} {s : List UInt8} {k : Nat} {f : Fd} (hb : ∀ (j : Nat) g, j < k → fs[j]? = some g → isF s g = false) (h : fs[k]? = some f) (hf : isF s f = true) : fs.find? (isF s) = some f := by
  induction fs generalizing k with
  | nil => simp at h
  | cons g fs ih =>
    cases k with
    | zero =>
      obtain rfl : g = f := by simpa using h
      rw [List.find?_cons, hf]
    | succ k =>
      have hg := hb 0 g (by omega) rfl
      rw [List.find?_cons, hg]
      exact ih (k := k) (fun j x hj hx => hb (j + 1) x (by omega) (by simpa using hx)) (by simpa using h)

set_option maxRecDepth 20000 in
set_option maxHeartbeats 4000000 in
theorem Count_any {w : World} {A : Option Addr} {n c : Nat} {fs : List Fd} (h : Fds w A n c fs) (hn : n ≤ 1000) (s : List UInt8) :
    Calls Tryd.prog 34 #[.slice A n c, .string ⟨s.toArray⟩] w fun e w' => e = .returned (.int .i64 (cntF fs s)) ∧ Below w.heap.size w w' := by
  have HL := Lib.hid h.len
  go_enter Tryd.func34, Tryd.ntmps34
  go_wp2_with fail
  go_loopw [5, 10] (fun v i wr => ∃ k : Nat, k ≤ n ∧ v = .int .i64 (cntF (fs.take k) s) ∧ i = .int .i64 k ∧ Below w.heap.size w wr) (fun _ i _ => n - (intOf i).toNat)
  case atStart => exact ⟨0, by omega, rfl, rfl, Below.refl _ _⟩
  case round =>
    obtain ⟨k, hk, rfl, rfl, hb⟩ := hrel
    by_cases hkn : k < n
    · have hx : fs[k]? = some (fs[k]'(by rw [HL.out]; exact hkn)) := List.getElem?_eq_getElem _
      generalize fs[k]'(by rw [HL.out]; exact hkn) = f at hx
      have hr := h.below hb
      have hidx := fun W => h.idx hkn W
      have hld := hr.load hx
      have hcs := cnt_succ hx s
      have hle : cntF (fs.take k) s ≤ 1000 := by
        have := cnt_le (fs.take k) s
        rw [List.length_take] at this
        omega
      have hk' : (k : Int) < n := by omega
      have HLD := Lib.hid hld
      obtain ⟨f1, f2⟩ := f
      dsimp only at HLD
      have HCS := Lib.hid hcs
      clear hx hkn hld hcs hr
      obtain ⟨C, hC⟩ : ∃ C, cntF (fs.take k) s = C := ⟨_, rfl⟩
      rw [hC] at HCS hle ⊢
      clear hC
      by_cases he : f1 = s
      · have he' : (f1 == s) = true := by simpa using he
        have HN : Hid (cntF (fs.take (k + 1)) s = C + 1) := by
          show _ = _
          rw [HCS.out, if_pos (show isF s (f1, f2) = true from he')]
        clear he HCS
        go_wp2_with (first
          | (refine wpList_load_run rfl _ _ rfl _ rfl _ HLD.out ?_)
          | (refine wpList_alloc_zero rfl _ rfl (fdA [] []) zero_fd ?_; intro w4 hg4 hb4 hz4; clear hz4)
          | (refine wpList_store_all rfl _ _ _ rfl wr.heap.size rfl _ _ _ rfl hg4 (size_fd _ _) rfl (fd_one _ _) ?_; intro w5 hg5 hgr5 hz5; clear hz5; have hb5 : Below wr.heap.size wr w5 := hb4.grown hgr5 hb4.size (fun g hg => (by obtain rfl := Option.some.inj hg; exact Nat.le_refl _)); have hc0 : w5.cell? ⟨wr.heap.size, 0, none⟩ = some (.string ⟨f1.toArray⟩) := cell_fd hg5 rfl))
        go_roundw
        case rel => exact ⟨k + 1, by omega, by rw [HN.out]; go_num, by go_num, hb.trans (hb5.mono hb.size)⟩
        case measure => simp [intOf]; omega
      · have he' : (f1 == s) = false := by simpa using he
        have HN : Hid (cntF (fs.take (k + 1)) s = C) := by
          show _ = _
          have hne : ¬ isF s (f1, f2) = true := by
            unfold isF
            rw [he']
            exact Bool.false_ne_true
          rw [HCS.out, if_neg hne, Nat.add_zero]
        clear he HCS
        go_wp2_with (first
          | (refine wpList_load_run rfl _ _ rfl _ rfl _ HLD.out ?_)
          | (refine wpList_alloc_zero rfl _ rfl (fdA [] []) zero_fd ?_; intro w4 hg4 hb4 hz4; clear hz4)
          | (refine wpList_store_all rfl _ _ _ rfl wr.heap.size rfl _ _ _ rfl hg4 (size_fd _ _) rfl (fd_one _ _) ?_; intro w5 hg5 hgr5 hz5; clear hz5; have hb5 : Below wr.heap.size wr w5 := hb4.grown hgr5 hb4.size (fun g hg => (by obtain rfl := Option.some.inj hg; exact Nat.le_refl _)); have hc0 : w5.cell? ⟨wr.heap.size, 0, none⟩ = some (.string ⟨f1.toArray⟩) := cell_fd hg5 rfl))
        go_roundw
        case rel => exact ⟨k + 1, by omega, by rw [HN.out], by go_num, hb.trans (hb5.mono hb.size)⟩
        case measure => simp [intOf]; omega
    · obtain rfl : k = n := by omega
      rw [List.take_of_length_le (by rw [HL.out]; exact Nat.le_refl _)]
      clear hkn
      go_wp2_with fail
      go_ret
      exact ⟨rfl, hb⟩

end Go.Proofs.YtckkmdigmecagaaDoor.Fl

/-
  Package field and the document's answer: Get.
-/
namespace Go.Proofs.YtckkmdigmecagaaDoor.Fl
open Go.RowKit

def Got (fs : List Fd) (s : List UInt8) (e : Ending) : Prop := e = .returned (.tuple #[.string ⟨(getF fs s).1.toArray⟩, .int .i64 (getF fs s).2])
theorem get_none {fs : List Fd} {s : List UInt8} (h : cntF fs s = 0) : getF fs s = ([], 5) := if_pos h
theorem get_one {fs : List Fd} {s : List UInt8} (h : cntF fs s = 1) {k : Nat} {f : Fd} (hb : ∀ (j : Nat) g, j < k → fs[j]? = some g → isF s g = false) (hx : fs[k]? = some f) (hf : isF s f = true) : getF fs s = (f.2, 0) := by
  unfold getF
  rw [if_neg (by omega), if_pos h, find_at hb hx hf]
  rfl
theorem get_many {fs : List Fd} {s : List UInt8} (h0 : cntF fs s ≠ 0) (h1 : cntF fs s ≠ 1) : getF fs s = ([], 6) := by
  unfold getF
  rw [if_neg h0, if_neg h1]
theorem cnt_none {fs : List Fd} {s : List UInt8} (hb : ∀ (j : Nat) g, fs[j]? = some g → isF s g = false) : cntF fs s = 0 := by
  unfold cntF
  rw [List.countP_eq_zero]
  intro g hg
  obtain ⟨j, hj⟩ := List.mem_iff_getElem?.1 hg
  rw [hb j g hj]
  exact Bool.false_ne_true

set_option maxRecDepth 20000 in
set_option maxHeartbeats 4000000 in
theorem Get_any {w : World} {A : Option Addr} {n c : Nat} {fs : List Fd} (h : Fds w A n c fs) (hn : n ≤ 1000) (s : List UInt8) :
    Calls Tryd.prog 32 #[.slice A n c, .string ⟨s.toArray⟩] w fun e w' => Got fs s e ∧ Below w.heap.size w w' := by
  have HL := Lib.hid h.len
  have HC := Lib.hid (Count_any h hn s)
  obtain ⟨C, hC⟩ : ∃ C, cntF fs s = C := ⟨_, rfl⟩
  rw [hC] at HC
  have hcs : C = 0 ∨ C = 1 ∨ (C ≠ 0 ∧ C ≠ 1) := by omega
  rcases hcs with rfl | rfl | ⟨h0, h1⟩
  · have HG := Lib.hid (get_none hC)
    clear hC
    go_enter Tryd.func32, Tryd.ntmps32
    go_wp2_with fail
    refine HC.out.mono ?_
    rintro e w1 ⟨rfl, hb1⟩
    go_wp2_with fail
    go_ret2
    unfold Got
    rw [HG.out]
    exact ⟨rfl, hb1⟩
  · have HCC := Lib.hid hC
    clear hC
    go_enter Tryd.func32, Tryd.ntmps32
    go_wp2_with fail
    refine HC.out.mono ?_
    rintro e w1 ⟨rfl, hb1⟩
    go_wp2_with fail
    go_loopw [17] (fun i wr => ∃ k : Nat, k ≤ n ∧ i = .int .i64 k ∧ Below w.heap.size w wr ∧ Hid (∀ (j : Nat) g, j < k → fs[j]? = some g → isF s g = false)) (fun i _ => n - (intOf i).toNat)
    case atStart => exact ⟨0, by omega, rfl, hb1, (show ∀ (j : Nat) g, j < 0 → _ from fun j g h => absurd h (by omega))⟩
    case round =>
      obtain ⟨k, hk, rfl, hb, hH⟩ := hrel
      by_cases hkn : k < n
      · have hx : fs[k]? = some (fs[k]'(by rw [HL.out]; exact hkn)) := List.getElem?_eq_getElem _
        generalize fs[k]'(by rw [HL.out]; exact hkn) = f at hx
        have hr := h.below hb
        have hidx := fun W => h.idx hkn W
        have HLD := Lib.hid (hr.load hx)
        have hk' : (k : Int) < n := by omega
        obtain ⟨f1, f2⟩ := f
        dsimp only at HLD
        by_cases he : f1 = s
        · have he' : (f1 == s) = true := by simpa using he
          have HG := Lib.hid (get_one HCC.out hH.out hx he')
          clear he hx hkn hr
          go_wp2_with (first
            | (refine wpList_load_run rfl _ _ rfl _ rfl _ HLD.out ?_)
            | (refine wpList_alloc_zero rfl _ rfl (fdA [] []) zero_fd ?_; intro w4 hg4 hb4 hz4; clear hz4)
            | (refine wpList_store_all rfl _ _ _ rfl wr.heap.size rfl _ _ _ rfl hg4 (size_fd _ _) rfl (fd_one _ _) ?_; intro w5 hg5 hgr5 hz5; clear hz5; have hb5 : Below wr.heap.size wr w5 := hb4.grown hgr5 hb4.size (fun g hg => (by obtain rfl := Option.some.inj hg; exact Nat.le_refl _)); have hc0 : w5.cell? ⟨wr.heap.size, 0, none⟩ = some (.string ⟨f1.toArray⟩) := cell_fd hg5 rfl; have hc1 : w5.cell? ⟨wr.heap.size, 1, none⟩ = some (.string ⟨f2.toArray⟩) := cell_fd hg5 rfl))
          go_ret2
          unfold Got
          rw [HG.out]
          exact ⟨rfl, hb.trans (hb5.mono hb.size)⟩
        · have he' : (f1 == s) = false := by simpa using he
          have HN : Hid (∀ (j : Nat) g, j < k + 1 → fs[j]? = some g → isF s g = false) := fun j g hj hg => by
            by_cases hjk : j < k
            · exact hH.out j g hjk hg
            · obtain rfl : j = k := by omega
              rw [hx] at hg
              obtain rfl := Option.some.inj hg
              exact he'
          clear he hx hkn hr hH
          go_wp2_with (first
            | (refine wpList_load_run rfl _ _ rfl _ rfl _ HLD.out ?_)
            | (refine wpList_alloc_zero rfl _ rfl (fdA [] []) zero_fd ?_; intro w4 hg4 hb4 hz4; clear hz4)
            | (refine wpList_store_all rfl _ _ _ rfl wr.heap.size rfl _ _ _ rfl hg4 (size_fd _ _) rfl (fd_one _ _) ?_; intro w5 hg5 hgr5 hz5; clear hz5; have hb5 : Below wr.heap.size wr w5 := hb4.grown hgr5 hb4.size (fun g hg => (by obtain rfl := Option.some.inj hg; exact Nat.le_refl _)); have hc0 : w5.cell? ⟨wr.heap.size, 0, none⟩ = some (.string ⟨f1.toArray⟩) := cell_fd hg5 rfl))
          go_roundw
          case rel => exact ⟨k + 1, by omega, by go_num, hb.trans (hb5.mono hb.size), HN⟩
          case measure => simp [intOf]; omega
      · obtain rfl : k = n := by omega
        have : cntF fs s = 0 := cnt_none fun j g hg => hH.out j g (by rw [← HL.out]; exact (List.getElem?_eq_some_iff.1 hg).1) hg
        have := HCC.out
        omega
  · have HG := Lib.hid (get_many (fs := fs) (s := s) (by omega) (by omega))
    have h0' : ((C : Int) == 0) = false := by simp; omega
    have h1' : ((C : Int) == 1) = false := by simp; omega
    clear hC h0 h1
    go_enter Tryd.func32, Tryd.ntmps32
    go_wp2_with fail
    refine HC.out.mono ?_
    rintro e w1 ⟨rfl, hb1⟩
    go_wp2_with fail
    go_ret2
    unfold Got
    rw [HG.out]
    exact ⟨rfl, hb1⟩

end Go.Proofs.YtckkmdigmecagaaDoor.Fl

/-
  Plain: what a wire does with bytes, byte by byte.
-/
namespace Go.Proofs.YtckkmdigmecagaaDoor
open Go.RowKit

abbrev Bs := List UInt8
/-- A wire's plain state: what comes next, the line so far, the request so far, its body. -/
structure WSt where
  nx : Nat
  ln : Bs
  m : Bs
  t : Bs
  fs : List Fl.Fd
  kp : Bool
  bo : Option St
/-- A request that is whole. -/
structure Rqp where
  m : Bs
  t : Bs
  fs : List Fl.Fd
  bd : Bs
  kp : Bool
def verW : Bs := [72, 84, 84, 80, 47, 49, 46, 49]
def upB (x : UInt8) : Bool := decide (65 ≤ x.toNat) && decide (x.toNat ≤ 90)
def viB (x : UInt8) : Bool := decide (33 ≤ x.toNat) && decide (x.toNat ≤ 126)
def FirstP (s : Bs) : Prop := (cut1 32 s).2.2 = true ∧ (cut1 32 (cut1 32 s).2.1).2.2 = true ∧ (cut1 32 (cut1 32 s).2.1).2.1 = verW ∧ 1 ≤ (cut1 32 s).1.length ∧ (cut1 32 s).1.length ≤ 10 ∧ (cut1 32 (cut1 32 s).2.1).1 ≠ [] ∧ (cut1 32 s).1.all upB = true ∧ (cut1 32 (cut1 32 s).2.1).1.all viB = true
instance (s : Bs) : Decidable (FirstP s) := by unfold FirstP; infer_instance
/-- A request's line: its method, its target. -/
def firstF (s : Bs) : Option (Bs × Bs) := if FirstP s then some ((cut1 32 s).1, (cut1 32 (cut1 32 s).2.1).1) else none
def dgB (x : UInt8) : Bool := decide (48 ≤ x.toNat) && decide (x.toNat ≤ 57)
def valF : Bs → Nat → Nat
  | [], v => v
  | x :: l, v => valF l (10 * v + (x.toNat - 48))
def lenF (s : Bs) : Option Nat := if 1 ≤ s.length ∧ s.length ≤ 18 ∧ s.all dgB = true then some (valF s 0) else none
def teW : Bs := [116, 114, 97, 110, 115, 102, 101, 114, 45, 101, 110, 99, 111, 100, 105, 110, 103]
def clW : Bs := [99, 111, 110, 116, 101, 110, 116, 45, 108, 101, 110, 103, 116, 104]
def hoW : Bs := [104, 111, 115, 116]
def coW : Bs := [99, 111, 110, 110, 101, 99, 116, 105, 111, 110]
def closeW : Bs := [99, 108, 111, 115, 101]
def chuW : Bs := [99, 104, 117, 110, 107, 101, 100]
/-- Does a field connection say close? -/
def closesF (fs : List Fl.Fd) : Bool := fs.any fun f => f.1 == coW && (Fl.wordsF (split1 44 f.2)).contains closeW
/-- How many bytes the body has, if it is sized and the number may be. -/
def sizeF (fs : List Fl.Fd) : Option Nat := if (Fl.getF fs clW).2 = 0 then lenF (Fl.getF fs clW).1 else some 0
/-- A head that is whole: the error's number, or the body that comes. -/
def emptyF (fs : List Fl.Fd) : Int × Option St :=
  if Fl.cntF fs hoW ≠ 1 ∨ (Fl.getF fs teW).2 = 6 ∨ (Fl.getF fs clW).2 = 6 ∨ ((Fl.getF fs teW).2 = 0 ∧ (Fl.getF fs clW).2 = 0) ∨ sizeF fs = none then (4, none)
  else if (Fl.getF fs teW).2 = 0 ∧ Fl.smallL (Fl.getF fs teW).1 ≠ chuW then (4, none)
  else if 4096 < (sizeF fs).getD 0 then (9, none)
  else (0, some (if (Fl.getF fs teW).2 = 0 then st0 else stN ((sizeF fs).getD 0)))
/-- A line's text, if it ends as it must. -/
def textF (b : Bs) : Option Bs := if b.drop (b.length - 2) = [13, 10] then some (b.take (b.length - 2)) else none
/-- A line is looked at: the error's number, the state. -/
def judgeF (w : WSt) (b : Bs) : Int × WSt :=
  match textF b with
  | none => (4, w)
  | some s =>
    if w.nx = 1 then (match firstF s with
      | none => (4, w)
      | some (m, t) => (0, { w with m := m, t := t, fs := [], kp := true, nx := 2 }))
    else if s = [] then (match emptyF w.fs with
      | (0, some st) => (0, { w with kp := w.kp && !closesF w.fs, bo := some st, nx := 3 })
      | (e, _) => (e, w))
    else if w.fs.length = 32 then (2, w)
    else ((Fl.lineR s).2.2, { w with fs := w.fs ++ [((Fl.lineR s).1, (Fl.lineR s).2.1)] })
def lineF (w : WSt) (c : UInt8) : Int × WSt :=
  if c = 10 then ((judgeF w (w.ln ++ [c])).1, { (judgeF w (w.ln ++ [c])).2 with ln := [] })
  else if w.ln.length + 1 = 1024 then (2, w)
  else (0, { w with ln := w.ln ++ [c] })
/-- A body's error, as the wire tells it. -/
def errF (e : Int) : Int := if e = 2 then 9 else e
def bodyF (w : WSt) (st : St) (c : UInt8) : Int × WSt := (errF (takeP st c).2, { w with bo := some { (takeP st c).1 with bd := (takeP st c).2 } })
/-- The request, if it is whole. -/
def wholeF (w : WSt) : Option Rqp × WSt :=
  match w.bo with
  | some st => if w.nx = 3 ∧ st.nx = 9 then (some ⟨w.m, w.t, w.fs, st.got, w.kp⟩, ⟨if w.kp then 1 else 4, w.ln, [], [], [], false, none⟩) else (none, w)
  | none => (none, w)
def oneF (w : WSt) (c : UInt8) : Int × WSt := match w.bo with
  | some st => if w.nx = 3 then bodyF w st c else lineF w c
  | none => lineF w c
/-- What a wire is behind an error. -/
def badW : WSt := ⟨5, [], [], [], [], false, none⟩
/-- Bytes are fed: the requests, the state, the error's number. -/
def feedW : WSt → Bs → List Rqp × WSt × Int
  | w, [] => ([], w, 0)
  | w, c :: l => if w.nx = 4 then ([], w, 0) else if (oneF w c).1 ≠ 0 then ([], badW, (oneF w c).1)
    else ((wholeF (oneF w c).2).1.toList ++ (feedW (wholeF (oneF w c).2).2 l).1, (feedW (wholeF (oneF w c).2).2 l).2)
def newW : WSt := ⟨1, [], [], [], [], false, none⟩
/-- What a wire may be. -/
structure WOk (w : WSt) : Prop where
  nx1 : 1 ≤ w.nx
  nx5 : w.nx ≤ 5
  ln : w.ln.length ≤ 1023
  fs : w.fs.length ≤ 32
  fz : ∀ f ∈ w.fs, f.1.length ≤ 1024 ∧ f.2.length ≤ 1024 ∧ ∀ x ∈ f.2, x.toNat < 128
  b3 : w.nx = 3 ↔ w.bo.isSome = true
  bo : ∀ st, w.bo = some st → Ok st ∧ st.bd = 0 ∧ st.nx ≠ 9
  l3 : w.nx = 3 → w.ln = []
theorem feed_done {w : WSt} (h : w.nx = 4) (l : Bs) : feedW w l = ([], w, 0) := by
  cases l with
  | nil => rfl
  | cons c l =>
    rw [feedW, if_pos h]
theorem feed_app : ∀ (a b : Bs) (w : WSt), (feedW w a).2.2 = 0 → feedW w (a ++ b) = ((feedW w a).1 ++ (feedW (feedW w a).2.1 b).1, (feedW (feedW w a).2.1 b).2)
  | [], b, w, _ => by simp [feedW]
  | c :: a, b, w, h => by
    by_cases h4 : w.nx = 4
    · rw [feed_done h4, feed_done h4]
      simp [feed_done h4]
    · rw [List.cons_append, feedW, if_neg h4, feedW, if_neg h4]
      rw [feedW, if_neg h4] at h
      by_cases he : (oneF w c).1 ≠ 0
      · rw [if_pos he] at h
        exact absurd h he
      · rw [if_neg he] at h ⊢
        rw [if_neg he]
        have ih := feed_app a b (wholeF (oneF w c).2).2 h
        rw [ih]
        simp
theorem feed_bad : ∀ (a b : Bs) (w : WSt), (feedW w a).2.2 ≠ 0 → feedW w (a ++ b) = feedW w a
  | [], b, w, h => absurd rfl h
  | c :: a, b, w, h => by
    by_cases h4 : w.nx = 4
    · rw [feed_done h4, feed_done h4]
    · rw [List.cons_append, feedW, if_neg h4, feedW, if_neg h4]
      rw [feedW, if_neg h4] at h
      by_cases he : (oneF w c).1 ≠ 0
      · rw [if_pos he, if_pos he]
      · rw [if_neg he] at h
        rw [if_neg he, if_neg he, feed_bad a b _ h]

end Go.Proofs.YtckkmdigmecagaaDoor

/-
  Package wire: a request's line.
-/
namespace Go.Proofs.YtckkmdigmecagaaDoor
open Go.RowKit

/-- A request's cells. -/
def reqA (m t : Bs) (A : Option Addr) (n c : Nat) (B : Option Addr) (k d : Nat) (kp : Bool) : Array Value := #[.string ⟨m.toArray⟩, .string ⟨t.toArray⟩, .slice A n c, .slice B k d, .bool kp]
def reqZ : Array Value := reqA [] [] none 0 0 none 0 0 false
theorem zero_req : (Tryd.prog.info? 40).map (·.zero) = some (some (.agg reqZ)) := by kernel_rfl
theorem size_req0 : (Tryd.prog.info? 40).map (·.size) = some 5 := by kernel_rfl
section
variable {m t : Bs} {A B : Option Addr} {n c k d : Nat} {kp : Bool}
theorem size_req : (Tryd.prog.info? 40).map (·.size) = some (reqA m t A n c B k d kp).size := size_req0
theorem req_one : ∀ v ∈ (reqA m t A n c B k d kp).toList, v.oneCell' = true := by
  intro v hv
  simp only [reqA, List.mem_cons, List.not_mem_nil, or_false] at hv
  rcases hv with rfl | rfl | rfl | rfl | rfl <;> rfl
theorem cell_req {w : World} {g : Nat} {ty : TypeId} {fr : Nat × Nat} (h : w.heap[g]? = some (.cells (reqA m t A n c B k d kp) ty fr)) : w.cell? ⟨g, 0, none⟩ = some (.string ⟨m.toArray⟩) ∧ w.cell? ⟨g, 1, none⟩ = some (.string ⟨t.toArray⟩) ∧ w.cell? ⟨g, 2, none⟩ = some (.slice A n c) ∧ w.cell? ⟨g, 3, none⟩ = some (.slice B k d) ∧ w.cell? ⟨g, 4, none⟩ = some (.bool kp) := by
  refine ⟨?_, ?_, ?_, ?_, ?_⟩ <;> simp [World.cell?, h, reqA]
end
theorem build_req0 (W : World) : (Instr.build 40 #[]).run Tryd.prog W = .ok (.agg reqZ) W := by kernel_rfl
theorem emp_ne {l : Bs} (h : l ≠ []) : l.isEmpty = false := by
  cases l with
  | nil => exact absurd rfl h
  | cons x l => rfl
theorem all_ne {p : UInt8 → Bool} {l : Bs} {k : Nat} {x : UInt8} (h : l[k]? = some x) (hx : p x = false) : l.all p ≠ true := by
  intro ha
  have := List.all_eq_true.1 ha x (List.mem_of_getElem? h)
  rw [hx] at this
  cases this
theorem all_yes {p : UInt8 → Bool} {l : Bs} (h : ∀ (k : Nat) x, l[k]? = some x → p x = true) : l.all p = true := by
  rw [List.all_eq_true]
  intro x hx
  obtain ⟨k, hk⟩ := List.mem_iff_getElem?.1 hx
  exact h k x hk
/-- What comes of a request's line. -/
def Firsted (s : Bs) (w : World) (e : Ending) (w' : World) : Prop :=
  Below w.heap.size w w' ∧ ((firstF s = none ∧ e = .returned (.tuple #[.agg reqZ, .bool false])) ∨ ∃ m t, firstF s = some (m, t) ∧ e = .returned (.tuple #[.agg (reqA m t none 0 0 none 0 0 true), .bool true]))
theorem up_case (x : UInt8) : ((x.toNat : Int) < 65 ∧ upB x = false) ∨ (65 ≤ (x.toNat : Int) ∧ 90 < (x.toNat : Int) ∧ upB x = false) ∨ (65 ≤ (x.toNat : Int) ∧ (x.toNat : Int) ≤ 90 ∧ upB x = true) := by
  unfold upB
  by_cases h1 : (x.toNat : Int) < 65
  · exact .inl ⟨h1, by simp; omega⟩
  · by_cases h2 : 90 < (x.toNat : Int)
    · exact .inr (.inl ⟨by omega, h2, by simp; omega⟩)
    · exact .inr (.inr ⟨by omega, by omega, by simp; omega⟩)
theorem vi_case (x : UInt8) : ((x.toNat : Int) < 33 ∧ viB x = false) ∨ (33 ≤ (x.toNat : Int) ∧ 126 < (x.toNat : Int) ∧ viB x = false) ∨ (33 ≤ (x.toNat : Int) ∧ (x.toNat : Int) ≤ 126 ∧ viB x = true) := by
  unfold viB
  by_cases h1 : (x.toNat : Int) < 33
  · exact .inl ⟨h1, by simp; omega⟩
  · by_cases h2 : 126 < (x.toNat : Int)
    · exact .inr (.inl ⟨by omega, h2, by simp; omega⟩)
    · exact .inr (.inr ⟨by omega, by omega, by simp; omega⟩)

set_option maxRecDepth 20000 in
set_option maxHeartbeats 8000000 in
theorem first_any (s : Bs) (hs : s.length ≤ 1048576) (w : World) (hm : Mx w) : Calls Tryd.prog 26 #[.string ⟨s.toArray⟩] w (Firsted s w) := by
  obtain ⟨l1, l2⟩ := cut1_le 32 s
  have hff : firstF s = if FirstP s then some ((cut1 32 s).1, (cut1 32 (cut1 32 s).2.1).1) else none := rfl
  have hfp : FirstP s ↔ ((cut1 32 s).2.2 = true ∧ (cut1 32 (cut1 32 s).2.1).2.2 = true ∧ (cut1 32 (cut1 32 s).2.1).2.1 = verW ∧ 1 ≤ (cut1 32 s).1.length ∧ (cut1 32 s).1.length ≤ 10 ∧ (cut1 32 (cut1 32 s).2.1).1 ≠ [] ∧ (cut1 32 s).1.all upB = true ∧ (cut1 32 (cut1 32 s).2.1).1.all viB = true) := Iff.rfl
  have HC1 := Lib.hid (fun W (hb : Below w.heap.size w W) => Cut_any 32 s (by omega) W (hm.below hb))
  obtain ⟨⟨a, r, f⟩, hX⟩ : ∃ X, cut1 32 s = X := ⟨_, rfl⟩
  rw [hX] at HC1 hff hfp l1 l2
  dsimp only at HC1 hff hfp l1 l2
  obtain ⟨l3, l4⟩ := cut1_le 32 r
  have HC2 := Lib.hid (fun W (hb : Below w.heap.size w W) => Cut_any 32 r (by omega) W (hm.below hb))
  obtain ⟨⟨b, v, g⟩, hY⟩ : ∃ Y, cut1 32 r = Y := ⟨_, rfl⟩
  rw [hY] at HC2 hff hfp l3 l4
  dsimp only at HC2 hff hfp l3 l4
  have hno : ∀ w0 wz : World, Below w.heap.size w wz → firstF s = none → Firsted s w (.returned (.tuple #[.agg reqZ, .bool false])) wz := fun w0 wz hb h => ⟨hb, .inl ⟨h, rfl⟩⟩
  have HNO := Lib.hid (fun h : ¬ FirstP s => hff.trans (if_neg h))
  have HYS := Lib.hid (fun h : FirstP s => hff.trans (if_pos h))
  have HFP := Lib.hid hfp
  have hsa := size_mk a
  have hsb := size_mk b
  clear hX hY hff hfp hm hno
  go_enter Tryd.func26, Tryd.ntmps26
  go_wp2_with (refine wpList_alloc_zero rfl _ rfl reqZ zero_req ?_; intro w1 hg1 hb1 hz1; clear hz1)
  refine (HC1.out _ hb1).mono ?_
  rintro e w2 ⟨rfl, hb2⟩
  have hB2 := hb1.trans (hb2.mono hb1.size)
  have hlt1 : w.heap.size < w1.heap.size := (Array.getElem?_eq_some_iff.1 hg1).1
  have hG2 := (hb2.block _ hlt1).trans hg1
  have hlt2 : w.heap.size < w2.heap.size := Nat.lt_of_lt_of_le hlt1 hb2.size
  clear hg1 hb1 hb2
  go_wp2_with fail
  refine (HC2.out _ hB2).mono ?_
  rintro e w3 ⟨rfl, hb3⟩
  have hB3 := hB2.trans (hb3.mono hB2.size)
  have hG3 := (hb3.block _ hlt2).trans hG2
  clear hG2 hb3 hB2
  have hbad : firstF s = none → ∀ wz : World, w3.grownBy wz (some w.heap.size) → Firsted s w (.returned (.tuple #[.agg reqZ, .bool false])) wz := fun h wz hg => ⟨hB3.grown hg hB3.size (fun q hq => by obtain rfl := Option.some.inj hq; exact Nat.le_refl _), .inl ⟨h, rfl⟩⟩
  have HBAD := Lib.hid hbad
  clear hbad
  cases f
  · have HE := Lib.hid (HNO.out fun h => by have := (HFP.out.1 h).1; cases this)
    go_wp2_with (first
      | (refine wpList_build_run rfl _ _ rfl #[] (by rfl) _ (build_req0 _) ?_)
      | (refine wpList_store_all rfl _ _ _ rfl w.heap.size rfl _ reqZ reqZ rfl hG3 size_req rfl req_one ?_; intro wz hgz hgrz hzz; clear hzz))
    refine bodyPost_ret (results_cell_tmp rfl _ _ w.heap.size _ _ _ _ rfl hgz Tryd.underlying40 rfl size_req _ rfl) rfl ?_
    exact HBAD.out HE.out wz hgrz
  cases g
  · have HE := Lib.hid (HNO.out fun h => by have := (HFP.out.1 h).2.1; cases this)
    go_wp2_with (first
      | (refine wpList_build_run rfl _ _ rfl #[] (by rfl) _ (build_req0 _) ?_)
      | (refine wpList_store_all rfl _ _ _ rfl w.heap.size rfl _ reqZ reqZ rfl hG3 size_req rfl req_one ?_; intro wz hgz hgrz hzz; clear hzz))
    refine bodyPost_ret (results_cell_tmp rfl _ _ w.heap.size _ _ _ _ rfl hgz Tryd.underlying40 rfl size_req _ rfl) rfl ?_
    exact HBAD.out HE.out wz hgrz
  by_cases hv : v = verW
  · subst hv
    by_cases ha1 : (a.length : Int) < 1
    · have HE := Lib.hid (HNO.out fun h => by have := (HFP.out.1 h).2.2.2.1; omega)
      have d1 : decide ((a.length : Int) < 1) = true := decide_eq_true ha1
      clear ha1
      unfold verW
      go_wp2_with (first
        | (refine wpList_build_run rfl _ _ rfl #[] (by rfl) _ (build_req0 _) ?_)
        | (refine wpList_store_all rfl _ _ _ rfl w.heap.size rfl _ reqZ reqZ rfl hG3 size_req rfl req_one ?_; intro wz hgz hgrz hzz; clear hzz))
      refine bodyPost_ret (results_cell_tmp rfl _ _ w.heap.size _ _ _ _ rfl hgz Tryd.underlying40 rfl size_req _ rfl) rfl ?_
      exact HBAD.out HE.out wz hgrz
    have d1 : decide ((a.length : Int) < 1) = false := decide_eq_false ha1
    by_cases ha2 : (10 : Int) < a.length
    · have HE := Lib.hid (HNO.out fun h => by have := (HFP.out.1 h).2.2.2.2.1; omega)
      have d2 : decide ((10 : Int) < a.length) = true := decide_eq_true ha2
      clear ha1 ha2
      unfold verW
      go_wp2_with (first
        | (refine wpList_build_run rfl _ _ rfl #[] (by rfl) _ (build_req0 _) ?_)
        | (refine wpList_store_all rfl _ _ _ rfl w.heap.size rfl _ reqZ reqZ rfl hG3 size_req rfl req_one ?_; intro wz hgz hgrz hzz; clear hzz))
      refine bodyPost_ret (results_cell_tmp rfl _ _ w.heap.size _ _ _ _ rfl hgz Tryd.underlying40 rfl size_req _ rfl) rfl ?_
      exact HBAD.out HE.out wz hgrz
    have d2 : decide ((10 : Int) < a.length) = false := decide_eq_false ha2
    have hal : 1 ≤ a.length ∧ a.length ≤ 10 := by omega
    have HAL := Lib.hid hal
    clear hal
    by_cases hb0 : b = []
    · subst hb0
      have HE := Lib.hid (HNO.out fun h => (HFP.out.1 h).2.2.2.2.2.1 rfl)
      clear ha1 ha2
      unfold verW
      go_wp2_with (first
        | (refine wpList_build_run rfl _ _ rfl #[] (by rfl) _ (build_req0 _) ?_)
        | (refine wpList_store_all rfl _ _ _ rfl w.heap.size rfl _ reqZ reqZ rfl hG3 size_req rfl req_one ?_; intro wz hgz hgrz hzz; clear hzz))
      refine bodyPost_ret (results_cell_tmp rfl _ _ w.heap.size _ _ _ _ rfl hgz Tryd.underlying40 rfl size_req _ rfl) rfl ?_
      exact HBAD.out HE.out wz hgrz
    have hbe := emp_ne hb0
    have HB0 := Lib.hid hb0
    clear hb0 ha1 ha2
    unfold verW
    go_wp2_with fail
    clear d1 d2 hbe
    go_loopw [51] (fun i wr => ∃ k : Nat, k ≤ a.length ∧ i = .int .i64 k ∧ w3 = wr ∧ Hid (∀ (j : Nat) x, j < k → a[j]? = some x → upB x = true)) (fun i _ => a.length - (intOf i).toNat)
    case atStart => exact ⟨0, by omega, rfl, rfl, (show ∀ (j : Nat) x, j < 0 → _ from fun j x h => absurd h (by omega))⟩
    case round =>
      obtain ⟨k, hk, rfl, rfl, hH⟩ := hrel
      by_cases hka : k < a.length
      · have hx : a[k]? = some (a[k]'hka) := List.getElem?_eq_getElem hka
        generalize a[k]'hka = x at hx
        have hi : ∀ W, (Instr.index 9 (.string ⟨a.toArray⟩) (.int .i64 (k : Int))).run Tryd.prog W = .ok (.int .u8 (x.toNat : Int)) W := fun W => run_str_at (P := Tryd.prog) Tryd.underlying9 a k x hx (kl := .i64) W
        have hk' : (k : Int) < a.length := by omega
        have hxb : (x.toNat : Int) ≤ 255 := by have := x.toNat_lt; omega
        have HX := Lib.hid hx
        rcases up_case x with ⟨c1, hu⟩ | ⟨c1, c2, hu⟩ | ⟨c1, c2, hu⟩
        · have HE := Lib.hid (HNO.out fun h => all_ne HX.out hu (HFP.out.1 h).2.2.2.2.2.2.1)
          have e1 : decide ((x.toNat : Int) < 65) = true := decide_eq_true c1
          clear hx hka hH c1 hu
          go_wp2_with (first
            | (refine wpList_build_run rfl _ _ rfl #[] (by rfl) _ (build_req0 _) ?_)
            | (refine wpList_store_all rfl _ _ _ rfl w.heap.size rfl _ reqZ reqZ rfl hG3 size_req rfl req_one ?_; intro wz hgz hgrz hzz; clear hzz))
          refine bodyPost_ret (results_cell_tmp rfl _ _ w.heap.size _ _ _ _ rfl hgz Tryd.underlying40 rfl size_req _ rfl) rfl ?_
          exact HBAD.out HE.out wz hgrz
        · have HE := Lib.hid (HNO.out fun h => all_ne HX.out hu (HFP.out.1 h).2.2.2.2.2.2.1)
          have e1 : decide ((x.toNat : Int) < 65) = false := decide_eq_false (by omega)
          have e2 : decide (90 < (x.toNat : Int)) = true := decide_eq_true c2
          clear hx hka hH c1 c2 hu
          go_wp2_with (first
            | (refine wpList_build_run rfl _ _ rfl #[] (by rfl) _ (build_req0 _) ?_)
            | (refine wpList_store_all rfl _ _ _ rfl w.heap.size rfl _ reqZ reqZ rfl hG3 size_req rfl req_one ?_; intro wz hgz hgrz hzz; clear hzz))
          refine bodyPost_ret (results_cell_tmp rfl _ _ w.heap.size _ _ _ _ rfl hgz Tryd.underlying40 rfl size_req _ rfl) rfl ?_
          exact HBAD.out HE.out wz hgrz
        · have e1 : decide ((x.toNat : Int) < 65) = false := decide_eq_false (by omega)
          have e2 : decide (90 < (x.toNat : Int)) = false := decide_eq_false (by omega)
          have HN : Hid (∀ (j : Nat) y, j < k + 1 → a[j]? = some y → upB y = true) := fun j y hj hy => by
            by_cases hjk : j < k
            · exact hH.out j y hjk hy
            · obtain rfl : j = k := by omega
              rw [hx] at hy
              rw [← Option.some.inj hy]
              exact hu
          clear hx hka hH c1 c2 hu
          go_wp2_with fail
          go_roundw
          case rel => exact ⟨k + 1, by omega, by go_num, by trivial, HN⟩
          case measure => simp [intOf]; omega
      · obtain rfl : k = a.length := by omega
        have hup := all_yes fun k x h => hH.out k x (List.getElem?_eq_some_iff.1 h).1 h
        have HUP := Lib.hid hup
        clear hka hH hup
        go_wp2_with fail
        go_loopw [68] (fun i wr => ∃ k : Nat, k ≤ b.length ∧ i = .int .i64 k ∧ w3 = wr ∧ Hid (∀ (j : Nat) x, j < k → b[j]? = some x → viB x = true)) (fun i _ => b.length - (intOf i).toNat)
        case atStart => exact ⟨0, by omega, rfl, rfl, (show ∀ (j : Nat) x, j < 0 → _ from fun j x h => absurd h (by omega))⟩
        case round =>
          obtain ⟨k, hk, rfl, rfl, hH⟩ := hrel
          by_cases hka : k < b.length
          · have hx : b[k]? = some (b[k]'hka) := List.getElem?_eq_getElem hka
            generalize b[k]'hka = x at hx
            have hi : ∀ W, (Instr.index 9 (.string ⟨b.toArray⟩) (.int .i64 (k : Int))).run Tryd.prog W = .ok (.int .u8 (x.toNat : Int)) W := fun W => run_str_at (P := Tryd.prog) Tryd.underlying9 b k x hx (kl := .i64) W
            have hk' : (k : Int) < b.length := by omega
            have hxb : (x.toNat : Int) ≤ 255 := by have := x.toNat_lt; omega
            have HX := Lib.hid hx
            rcases vi_case x with ⟨c1, hu⟩ | ⟨c1, c2, hu⟩ | ⟨c1, c2, hu⟩
            · have HE := Lib.hid (HNO.out fun h => all_ne HX.out hu (HFP.out.1 h).2.2.2.2.2.2.2)
              have e1 : decide ((x.toNat : Int) < 33) = true := decide_eq_true c1
              clear hx hka hH c1 hu
              go_wp2_with (first
                | (refine wpList_build_run rfl _ _ rfl #[] (by rfl) _ (build_req0 _) ?_)
                | (refine wpList_store_all rfl _ _ _ rfl w.heap.size rfl _ reqZ reqZ rfl hG3 size_req rfl req_one ?_; intro wz hgz hgrz hzz; clear hzz))
              refine bodyPost_ret (results_cell_tmp rfl _ _ w.heap.size _ _ _ _ rfl hgz Tryd.underlying40 rfl size_req _ rfl) rfl ?_
              exact HBAD.out HE.out wz hgrz
            · have HE := Lib.hid (HNO.out fun h => all_ne HX.out hu (HFP.out.1 h).2.2.2.2.2.2.2)
              have e1 : decide ((x.toNat : Int) < 33) = false := decide_eq_false (by omega)
              have e2 : decide (126 < (x.toNat : Int)) = true := decide_eq_true c2
              clear hx hka hH c1 c2 hu
              go_wp2_with (first
                | (refine wpList_build_run rfl _ _ rfl #[] (by rfl) _ (build_req0 _) ?_)
                | (refine wpList_store_all rfl _ _ _ rfl w.heap.size rfl _ reqZ reqZ rfl hG3 size_req rfl req_one ?_; intro wz hgz hgrz hzz; clear hzz))
              refine bodyPost_ret (results_cell_tmp rfl _ _ w.heap.size _ _ _ _ rfl hgz Tryd.underlying40 rfl size_req _ rfl) rfl ?_
              exact HBAD.out HE.out wz hgrz
            · have e1 : decide ((x.toNat : Int) < 33) = false := decide_eq_false (by omega)
              have e2 : decide (126 < (x.toNat : Int)) = false := decide_eq_false (by omega)
              have HN : Hid (∀ (j : Nat) y, j < k + 1 → b[j]? = some y → viB y = true) := fun j y hj hy => by
                by_cases hjk : j < k
                · exact hH.out j y hjk hy
                · obtain rfl : j = k := by omega
                  rw [hx] at hy
                  rw [← Option.some.inj hy]
                  exact hu
              clear hx hka hH c1 c2 hu
              go_wp2_with fail
              go_roundw
              case rel => exact ⟨k + 1, by omega, by go_num, by trivial, HN⟩
              case measure => simp [intOf]; omega
          · obtain rfl : k = b.length := by omega
            have hvi := all_yes fun k x h => hH.out k x (List.getElem?_eq_some_iff.1 h).1 h
            have HE := Lib.hid (HYS.out (HFP.out.2 ⟨by trivial, by trivial, by trivial, HAL.out.1, HAL.out.2, HB0.out, HUP.out, hvi⟩))
            clear hka hH hvi
            go_wp2_with (refine wpList_store_all rfl _ _ _ rfl w.heap.size rfl _ reqZ (reqA a b none 0 0 none 0 0 true) rfl hG3 size_req rfl req_one ?_; intro wz hgz hgrz hzz; clear hzz)
            refine bodyPost_ret (results_cell_tmp rfl _ _ w.heap.size _ _ _ _ rfl hgz Tryd.underlying40 rfl size_req _ rfl) rfl ?_
            exact ⟨hB3.grown hgrz hB3.size (fun q hq => by obtain rfl := Option.some.inj hq; exact Nat.le_refl _), .inr ⟨a, b, HE.out, rfl⟩⟩
  · have d0 : (v == [72, 84, 84, 80, 47, 49, 46, 49]) = false := by simpa [verW] using hv
    have HE := Lib.hid (HNO.out fun h => hv (HFP.out.1 h).2.2.1)
    clear hv
    go_wp2_with (first
      | (refine wpList_build_run rfl _ _ rfl #[] (by rfl) _ (build_req0 _) ?_)
      | (refine wpList_store_all rfl _ _ _ rfl w.heap.size rfl _ reqZ reqZ rfl hG3 size_req rfl req_one ?_; intro wz hgz hgrz hzz; clear hzz))
    refine bodyPost_ret (results_cell_tmp rfl _ _ w.heap.size _ _ _ _ rfl hgz Tryd.underlying40 rfl size_req _ rfl) rfl ?_
    exact HBAD.out HE.out wz hgrz

end Go.Proofs.YtckkmdigmecagaaDoor

/-
  Package wire: a content-length's number.
-/
namespace Go.Proofs.YtckkmdigmecagaaDoor
open Go.RowKit

theorem dg_case (x : UInt8) : ((x.toNat : Int) < 48 ∧ dgB x = false) ∨ (48 ≤ (x.toNat : Int) ∧ 57 < (x.toNat : Int) ∧ dgB x = false) ∨ (48 ≤ (x.toNat : Int) ∧ (x.toNat : Int) ≤ 57 ∧ dgB x = true) := by
  unfold dgB
  by_cases h1 : (x.toNat : Int) < 48
  · exact .inl ⟨h1, by simp; omega⟩
  · by_cases h2 : 57 < (x.toNat : Int)
    · exact .inr (.inl ⟨by omega, h2, by simp; omega⟩)
    · exact .inr (.inr ⟨by omega, by omega, by simp; omega⟩)
theorem valF_snoc : ∀ (l : Bs) (x : UInt8) (v : Nat), valF (l ++ [x]) v = 10 * valF l v + (x.toNat - 48)
  | [], x, v => rfl
  | y :: l, x, v => valF_snoc l x _
theorem valF_take {s : Bs} {k : Nat} {x : UInt8} (hx : s[k]? = some x) : valF (s.take (k + 1)) 0 = 10 * valF (s.take k) 0 + (x.toNat - 48) := by
  obtain ⟨h1, e1⟩ := List.getElem?_eq_some_iff.1 hx
  rw [List.take_succ_eq_append_getElem h1, e1, valF_snoc]
theorem valF_lt : ∀ (l : Bs), (∀ x ∈ l, x.toNat ≤ 57) → ∀ v, valF l v < (v + 1) * 10 ^ l.length
  | [], _, v => by simp [valF]
  | x :: l, h, v => by
    have ih := valF_lt l (fun y hy => h y (List.mem_cons_of_mem _ hy)) (10 * v + (x.toNat - 48))
    have hx := h x (List.mem_cons_self ..)
    rw [valF, List.length_cons, Nat.pow_succ]
    have h2 : 10 * v + (x.toNat - 48) + 1 ≤ (v + 1) * 10 := by omega
    calc valF l (10 * v + (x.toNat - 48)) < (10 * v + (x.toNat - 48) + 1) * 10 ^ l.length := ih
      _ ≤ ((v + 1) * 10) * 10 ^ l.length := Nat.mul_le_mul_right _ h2
      _ = (v + 1) * (10 ^ l.length * 10) := by rw [Nat.mul_assoc, Nat.mul_comm 10]
theorem pow10_le (k : Nat) (h : k ≤ 18) : 10 ^ k ≤ 1000000000000000000 := by
  have := Nat.pow_le_pow_right (n := 10) (by omega) h
  omega
theorem pow10_le17 (k : Nat) (h : k ≤ 17) : 10 ^ k ≤ 100000000000000000 := by
  have := Nat.pow_le_pow_right (n := 10) (by omega) h
  omega
def Lengthed (s : Bs) (w : World) (e : Ending) (w' : World) : Prop := w = w' ∧ ((lenF s = none ∧ e = .returned (.tuple #[.int .i64 0, .bool false])) ∨ ∃ v : Nat, lenF s = some v ∧ v < 1000000000000000000 ∧ e = .returned (.tuple #[.int .i64 (v : Int), .bool true]))

set_option maxRecDepth 20000 in
set_option maxHeartbeats 8000000 in
theorem length_any (s : Bs) (hs : s.length ≤ 1048576) (w : World) : Calls Tryd.prog 33 #[.string ⟨s.toArray⟩] w (Lengthed s w) := by
  have hff : lenF s = if 1 ≤ s.length ∧ s.length ≤ 18 ∧ s.all dgB = true then some (valF s 0) else none := rfl
  have HNO := Lib.hid (fun h : ¬ (1 ≤ s.length ∧ s.length ≤ 18 ∧ s.all dgB = true) => hff.trans (if_neg h))
  have HYS := Lib.hid (fun h : (1 ≤ s.length ∧ s.length ≤ 18 ∧ s.all dgB = true) => hff.trans (if_pos h))
  have hsz := size_mk s
  clear hff
  by_cases h1 : (s.length : Int) < 1
  · have HE := Lib.hid (HNO.out fun h => by have := h.1; omega)
    have d1 : decide ((s.length : Int) < 1) = true := decide_eq_true h1
    clear h1
    go_enter Tryd.func33, Tryd.ntmps33
    go_wp2_with fail
    go_ret2
    exact ⟨rfl, .inl ⟨HE.out, rfl⟩⟩
  have d1 : decide ((s.length : Int) < 1) = false := decide_eq_false h1
  by_cases h2 : (18 : Int) < s.length
  · have HE := Lib.hid (HNO.out fun h => by have := h.2.1; omega)
    have d2 : decide ((18 : Int) < s.length) = true := decide_eq_true h2
    clear h1 h2
    go_enter Tryd.func33, Tryd.ntmps33
    go_wp2_with fail
    go_ret2
    exact ⟨rfl, .inl ⟨HE.out, rfl⟩⟩
  have d2 : decide ((18 : Int) < s.length) = false := decide_eq_false h2
  have HL := Lib.hid (show 1 ≤ s.length ∧ s.length ≤ 18 by omega)
  clear h1 h2
  go_enter Tryd.func33, Tryd.ntmps33
  go_wp2_with fail
  clear d1 d2
  go_loopw [4, 16] (fun v i wr => ∃ (k V : Nat), k ≤ s.length ∧ i = .int .i64 k ∧ v = .int .i64 (V : Int) ∧ V < 10 ^ k ∧ w = wr ∧ Hid (V = valF (s.take k) 0 ∧ ∀ (j : Nat) x, j < k → s[j]? = some x → dgB x = true)) (fun _ i _ => s.length - (intOf i).toNat)
  case atStart => exact ⟨0, 0, by omega, rfl, rfl, by decide, rfl, ⟨by simp [valF], fun j x h => absurd h (by omega)⟩⟩
  case round =>
    obtain ⟨k, V, hk, rfl, rfl, hV, rfl, hH⟩ := hrel
    by_cases hka : k < s.length
    · have hx : s[k]? = some (s[k]'hka) := List.getElem?_eq_getElem hka
      generalize s[k]'hka = x at hx
      have hi : ∀ W, (Instr.index 9 (.string ⟨s.toArray⟩) (.int .i64 (k : Int))).run Tryd.prog W = .ok (.int .u8 (x.toNat : Int)) W := fun W => run_str_at (P := Tryd.prog) Tryd.underlying9 s k x hx (kl := .i64) W
      have hk' : (k : Int) < s.length := by omega
      have hxb : (x.toNat : Int) ≤ 255 := by have := x.toNat_lt; omega
      have HX := Lib.hid hx
      rcases dg_case x with ⟨c1, hu⟩ | ⟨c1, c2, hu⟩ | ⟨c1, c2, hu⟩
      · have HE := Lib.hid (HNO.out fun h => all_ne HX.out hu h.2.2)
        have e1 : decide ((x.toNat : Int) < 48) = true := decide_eq_true c1
        clear hx hka hH c1 hu hV
        go_wp2_with fail
        go_ret2
        exact ⟨rfl, .inl ⟨HE.out, rfl⟩⟩
      · have HE := Lib.hid (HNO.out fun h => all_ne HX.out hu h.2.2)
        have e1 : decide ((x.toNat : Int) < 48) = false := decide_eq_false (by omega)
        have e2 : decide (57 < (x.toNat : Int)) = true := decide_eq_true c2
        clear hx hka hH c1 c2 hu hV
        go_wp2_with fail
        go_ret2
        exact ⟨rfl, .inl ⟨HE.out, rfl⟩⟩
      · have e1 : decide ((x.toNat : Int) < 48) = false := decide_eq_false (by omega)
        have e2 : decide (57 < (x.toNat : Int)) = false := decide_eq_false (by omega)
        have hp := pow10_le17 k (by have := HL.out.2; omega)
        have hVb : (V : Int) < 100000000000000000 := by omega
        have hp2 : 10 * V + (x.toNat - 48) < 10 ^ (k + 1) := by
          rw [Nat.pow_succ]
          omega
        have HP2 := Lib.hid hp2
        have HN : Hid (10 * V + (x.toNat - 48) = valF (s.take (k + 1)) 0 ∧ ∀ (j : Nat) y, j < k + 1 → s[j]? = some y → dgB y = true) := ⟨by rw [valF_take hx, hH.out.1], fun j y hj hy => by
          by_cases hjk : j < k
          · exact hH.out.2 j y hjk hy
          · obtain rfl : j = k := by omega
            rw [hx] at hy
            rw [← Option.some.inj hy]
            exact hu⟩
        have hc : ((10 * V + (x.toNat - 48) : Nat) : Int) = 10 * (V : Int) + ((x.toNat : Int) - 48) := by omega
        have HC := Lib.hid hc
        clear hx hka hH hu hV hp hp2 hc
        go_wp2_with fail
        go_roundw
        case rel => exact ⟨k + 1, 10 * V + (x.toNat - 48), by omega, by go_num, by rw [HC.out], HP2.out, by trivial, HN⟩
        case measure => simp [intOf]; omega
    · obtain rfl : k = s.length := by omega
      have hall := all_yes fun k x h => hH.out.2 k x (List.getElem?_eq_some_iff.1 h).1 h
      have hval := hH.out.1
      rw [List.take_length] at hval
      have HE := Lib.hid (HYS.out ⟨HL.out.1, HL.out.2, hall⟩)
      have hlt : V < 1000000000000000000 := Nat.lt_of_lt_of_le hV (pow10_le _ HL.out.2)
      have HV := Lib.hid hval
      have HLT := Lib.hid hlt
      clear hka hH hall hval hV hlt
      go_wp2_with fail
      go_ret2
      exact ⟨rfl, .inr ⟨V, by rw [HE.out, HV.out], HLT.out, rfl⟩⟩

end Go.Proofs.YtckkmdigmecagaaDoor

/-
  Package wire: a wire in memory.
-/
namespace Go.Proofs.YtckkmdigmecagaaDoor
open Go.RowKit

/-- Where a wire's parts lie: its line's row, its fields' row, its body and the body's row. -/
structure WMem where
  L : Option Addr
  nL : Nat
  cL : Nat
  F : Option Addr
  nF : Nat
  cF : Nat
  pb : Option Nat
  A : Option Addr
  n : Nat
  c : Nat
def ptrV : Option Nat → Value
  | none => .pointer none
  | some g => .pointer (some ⟨g, 0, none⟩)
def wireCells (x : WSt) (m : WMem) : Array Value := #[.int .i64 (x.nx : Int), .slice m.L m.nL m.cL, .string ⟨x.m.toArray⟩, .string ⟨x.t.toArray⟩, .slice m.F m.nF m.cF, .slice none 0 0, .bool x.kp, ptrV m.pb]
/-- Block k is the wire's. -/
def WMem.has (g : Nat) (m : WMem) (k : Nat) : Prop := k = g ∨ blk m.L = some k ∨ blk m.F = some k ∨ m.pb = some k ∨ blk m.A = some k
/-- No two of a wire's parts lie in one block. -/
structure WMem.Apart (g : Nat) (m : WMem) : Prop where
  L : blk m.L ≠ some g
  F : blk m.F ≠ some g
  B : m.pb ≠ some g
  A : blk m.A ≠ some g
  LF : ∀ k, blk m.L = some k → blk m.F ≠ some k
  LB : ∀ k, blk m.L = some k → m.pb ≠ some k
  LA : ∀ k, blk m.L = some k → blk m.A ≠ some k
  FB : ∀ k, blk m.F = some k → m.pb ≠ some k
  FA : ∀ k, blk m.F = some k → blk m.A ≠ some k
def BoP (w : World) (base : Nat) (m : WMem) : Option St → Prop
  | none => m.pb = none ∧ m.A = none
  | some st => ∃ gb, m.pb = some gb ∧ Body w base gb m.A m.n m.c st
/-- Block g is a wire. -/
structure WireB (w : World) (base g : Nat) (x : WSt) (m : WMem) : Prop where
  ge : base ≤ g
  obj : w.heap[g]? = some (.cells (wireCells x m) 43 (0, 0))
  ln : Own w base 5 1 m.L m.nL m.cL (x.ln.map b8)
  fs : Own w base 56 2 m.F m.nF m.cF (Fl.fdL x.fs)
  bo : BoP w base m x.bo
  nd : m.Apart g
section
variable {w w' : World} {base g : Nat} {x : WSt} {m : WMem}
theorem WireB.lt (h : WireB w base g x m) : g < w.heap.size := (Array.getElem?_eq_some_iff.1 h.obj).1
theorem WireB.in_ (h : WireB w base g x m) : ∀ k, m.has g k → base ≤ k ∧ k < w.heap.size := by
  intro k hk
  rcases hk with rfl | h1 | h1 | h1 | h1
  · exact ⟨h.ge, h.lt⟩
  · exact h.ln.lt k h1
  · exact h.fs.lt k h1
  · have hb := h.bo
    cases hx : x.bo with
    | none =>
      rw [hx] at hb
      rw [hb.1] at h1
      cases h1
    | some st =>
      rw [hx] at hb
      obtain ⟨gb, h2, h3⟩ := hb
      rw [h2] at h1
      obtain rfl := Option.some.inj h1
      exact ⟨h3.ge, h3.lt⟩
  · have hb := h.bo
    cases hx : x.bo with
    | none =>
      rw [hx] at hb
      rw [hb.2] at h1
      cases h1
    | some st =>
      rw [hx] at hb
      obtain ⟨gb, h2, h3⟩ := hb
      exact h3.row.lt k h1
theorem BoP.keep {o : Option St} (h : BoP w base m o) (hk : ∀ k, m.pb = some k ∨ blk m.A = some k → w'.heap[k]? = w.heap[k]?) : BoP w' base m o := by
  cases o with
  | none => exact h
  | some st =>
    obtain ⟨gb, h2, h3⟩ := h
    exact ⟨gb, h2, h3.keep (hk gb (.inl h2)) (fun k hA => hk k (.inr hA))⟩
theorem WireB.keep (h : WireB w base g x m) (hk : ∀ k, m.has g k → w'.heap[k]? = w.heap[k]?) : WireB w' base g x m :=
  ⟨h.ge, (hk g (.inl rfl)).trans h.obj, h.ln.keep fun k h1 _ _ => hk k (.inr (.inl h1)), h.fs.keep fun k h1 _ _ => hk k (.inr (.inr (.inl h1))), h.bo.keep fun k h1 => hk k (.inr (.inr (.inr h1))), h.nd⟩
theorem WireB.below (h : WireB w base g x m) (hb : Below w.heap.size w w') : WireB w' base g x m := h.keep fun k hk => hb.block k (h.in_ k hk).2
theorem WireB.cells (h : WireB w base g x m) : w.cell? ⟨g, 0, none⟩ = some (.int .i64 (x.nx : Int)) ∧ w.cell? ⟨g, 1, none⟩ = some (.slice m.L m.nL m.cL) ∧ w.cell? ⟨g, 2, none⟩ = some (.string ⟨x.m.toArray⟩) ∧ w.cell? ⟨g, 3, none⟩ = some (.string ⟨x.t.toArray⟩) ∧ w.cell? ⟨g, 4, none⟩ = some (.slice m.F m.nF m.cF) ∧ w.cell? ⟨g, 5, none⟩ = some (.slice none 0 0) ∧ w.cell? ⟨g, 6, none⟩ = some (.bool x.kp) ∧ w.cell? ⟨g, 7, none⟩ = some (ptrV m.pb) := by
  have ho := h.obj
  refine ⟨?_, ?_, ?_, ?_, ?_, ?_, ?_, ?_⟩ <;> (simp only [World.cell?, ho]; rfl)
theorem WireB.free (h : WireB w base g x m) (i : Nat) : w.frozen? ⟨g, i, none⟩ = false := by simp [World.frozen?, h.obj]
end
/-- What an operation on a wire leaves as it was. -/
def WStep (w : World) (base g : Nat) (m : WMem) (w' : World) (x' : WSt) : Prop :=
  ∃ m', WireB w' base g x' m' ∧ But (m.has g) w w' ∧ ∀ k, m'.has g k → m.has g k ∨ w.heap.size ≤ k

theorem New_any (w : World) : Calls Tryd.prog 11 #[] w fun e w' => e = .returned (.pointer (some ⟨w.heap.size, 0, none⟩)) ∧ WireB w' w.heap.size w.heap.size newW ⟨none, 0, 0, none, 0, 0, none, none, 0, 0⟩ ∧ Below w.heap.size w w' := by
  go_enter Tryd.func11, Tryd.ntmps11
  go_wp2_with fail
  go_ret
  refine ⟨rfl, ⟨Nat.le_refl _, ?_, Own.nil_ _ _ _ _, Own.nil_ _ _ _ _, ⟨rfl, rfl⟩, by constructor <;> simp [blk]⟩, (Below.refl _ _).alloc (Nat.le_refl _) _⟩
  show (w.heap.push _)[w.heap.size]? = _
  simp [wireCells, newW, ptrV]

end Go.Proofs.YtckkmdigmecagaaDoor

/-
  Package wire: stores into a wire.
-/
namespace Go.Proofs.YtckkmdigmecagaaDoor
open Go.RowKit

theorem setc_other {w : World} {g i k : Nat} {v : Value} (h : g ≠ k) : (w.setCell ⟨g, i, none⟩ v).heap[k]? = w.heap[k]? := by
  simp [World.setCell, Array.getElem?_modify, h]
theorem setc_same {w : World} {g i : Nat} {cs : Array Value} {t : TypeId} {fr : Nat × Nat} (v : Value) (h : w.heap[g]? = some (.cells cs t fr)) : (w.setCell ⟨g, i, none⟩ v).heap[g]? = some (.cells (cs.setIfInBounds i v) t fr) := by
  simp [World.setCell, Array.getElem?_modify, h]
section
variable {w w' : World} {base g : Nat} {x : WSt} {m : WMem}
/-- A store into the wire's own block, of a value that names no row. -/
theorem WireB.set (h : WireB w base g x m) (i : Nat) (v : Value) (y : WSt) (hc : (wireCells x m).setIfInBounds i v = wireCells y m) (hl : y.ln = x.ln) (hf : y.fs = x.fs) (hb : y.bo = x.bo) : WireB (w.setCell ⟨g, i, none⟩ v) base g y m := by
  refine ⟨h.ge, by rw [setc_same v h.obj, hc], ?_, ?_, ?_, h.nd⟩
  · rw [hl]
    exact h.ln.keep fun k hk _ _ => setc_other (fun e => h.nd.L (by rw [hk, e]))
  · rw [hf]
    exact h.fs.keep fun k hk _ _ => setc_other (fun e => h.nd.F (by rw [hk, e]))
  · rw [hb]
    refine h.bo.keep fun k hk => setc_other (fun e => ?_)
    rcases hk with h1 | h1
    · exact h.nd.B (by rw [h1, e])
    · exact h.nd.A (by rw [h1, e])
theorem WireB.setKp (h : WireB w base g x m) (b : Bool) : WireB (w.setCell ⟨g, 6, none⟩ (.bool b)) base g { x with kp := b } m := h.set 6 _ _ rfl rfl rfl rfl
theorem WireB.setNx (h : WireB w base g x m) (n : Nat) : WireB (w.setCell ⟨g, 0, none⟩ (.int .i64 (n : Int))) base g { x with nx := n } m := h.set 0 _ _ rfl rfl rfl rfl
theorem But.setg {S : Nat → Prop} {w0 : World} (h : But S w0 w) (hS : S g) (i : Nat) (v : Value) : But S w0 (w.setCell ⟨g, i, none⟩ v) := h.set v (.inl hS)
/-- A body that was made: it becomes the wire's. -/
theorem WireB.setBody (h : WireB w base g x m) (hx : x.bo = none) {gb : Nat} {A : Option Addr} {n c : Nat} {st : St} (hb : Body w base gb A n c st) (h1 : ¬ m.has g gb) (h2 : ∀ k, blk A = some k → ¬ m.has g k) : WireB (w.setCell ⟨g, 7, none⟩ (.pointer (some ⟨gb, 0, none⟩))) base g { x with bo := some st } { m with pb := some gb, A := A, n := n, c := c } := by
  have hgb : gb ≠ g := fun e => h1 (.inl e)
  refine ⟨h.ge, ?_, h.ln.keep fun k hk _ _ => setc_other (fun e => h.nd.L (by rw [hk, e])), h.fs.keep fun k hk _ _ => setc_other (fun e => h.nd.F (by rw [hk, e])), ⟨gb, rfl, hb.keep (setc_other (fun e => hgb e.symm)) (fun k hk => setc_other (fun e => h2 k hk (.inl e.symm)))⟩, ?_⟩
  · rw [setc_same _ h.obj]
    rfl
  · refine ⟨h.nd.L, h.nd.F, fun e => hgb (Option.some.inj e), fun e => h2 g e (.inl rfl), h.nd.LF, fun k hk e => h1 ?_, fun k hk e => h2 k e (.inr (.inl hk)), fun k hk e => h1 ?_, fun k hk e => h2 k e (.inr (.inr (.inl hk)))⟩
    · obtain rfl := Option.some.inj e
      exact .inr (.inl hk)
    · obtain rfl := Option.some.inj e
      exact .inr (.inr (.inl hk))
end

end Go.Proofs.YtckkmdigmecagaaDoor

/-
  The laws of layer 23: begun; ChunkNone.
-/
namespace Go.Proofs.YtckkmdigmecagaaDoor
open Go.RowKit

theorem Body.below {w w' : World} {base g : Nat} {A : Option Addr} {n c : Nat} {s : St} (h : Body w base g A n c s) (hb : Below w.heap.size w w') : Body w' base g A n c s :=
  h.keep (hb.block g h.lt) fun k hk => hb.block k (h.row.lt k hk).2
theorem Body.alloc {w : World} {base g : Nat} {A : Option Addr} {n c : Nat} {s : St} (h : Body w base g A n c s) (o : Obj) : Body (w.alloc o) base g A n c s := h.below ((Below.refl _ _).alloc (Nat.le_refl _) o)

def beg : List UInt8 := [51, 13, 10, 97, 98, 99, 13, 10, 48, 13, 10, 13, 10, 88]
theorem feed_beg : feedP st0 beg = (13, ⟨9, 0, 0, 0, [97, 98, 99]⟩) := by rfl

theorem Feed_begun {w : World} {base g : Nat} (hb : Body w base g none 0 0 st0) :
    Calls Tryd.prog 15 #[.pointer (some ⟨g, 0, none⟩), .slice (some ⟨w.heap.size, 0, none⟩) 14 14] (w.alloc (.cells #[.int .u8 51, .int .u8 13, .int .u8 10, .int .u8 97, .int .u8 98, .int .u8 99, .int .u8 13, .int .u8 10, .int .u8 48, .int .u8 13, .int .u8 10, .int .u8 13, .int .u8 10, .int .u8 88] 5 (14, 15))) fun e w' => ∃ A' n' c', e = .returned (.tuple #[.int .i64 13, .int .i64 0]) ∧ Body w' base g A' n' c' ⟨9, 0, 0, 0, [97, 98, 99]⟩ ∧ Below g w w' := by
  have hl : Rd (w.alloc (.cells #[.int .u8 51, .int .u8 13, .int .u8 10, .int .u8 97, .int .u8 98, .int .u8 99, .int .u8 13, .int .u8 10, .int .u8 48, .int .u8 13, .int .u8 10, .int .u8 13, .int .u8 10, .int .u8 88] 5 (14, 15))) 1 (some ⟨w.heap.size, 0, none⟩) 14 14 (beg.map b8) := (Own.new (base := 0) (e := 5) (size := 1) w (beg.map b8).toArray (14, 15) 14 14 (beg.map b8) (Nat.zero_le _) (Nat.le_refl _) (by decide) (by decide) (by decide) (by simp) (fun j _ h => by omega)).rd
  have hlt := hb.lt
  refine (Feed_any (hb.alloc _) ok0 _ 14 14 beg hl (by omega) (fun k hk => ?_)).mono ?_
  · have e : w.heap.size = k := by simpa [blk] using hk
    intro hm
    rcases hm with h1 | h1
    · omega
    · simp [blk] at h1
  · rintro e w' ⟨A', n', c', rfl, hb', hw, _⟩
    rw [feed_beg] at hb' ⊢
    have e1 : feedN st0 beg = 13 := by unfold feedN; rw [feed_beg]; rfl
    rw [e1]
    have e2 : finP (13, (⟨9, 0, 0, 0, [97, 98, 99]⟩ : St)).2 = ⟨9, 0, 0, 0, [97, 98, 99]⟩ := rfl
    rw [e2] at hb'
    refine ⟨A', n', c', rfl, hb', ((Below.refl g w).alloc (Nat.le_of_lt hlt) _).trans (hw.below (fun i hi => ?_) (by simp; omega))⟩
    rcases hi with h1 | h1
    · omega
    · simp [blk] at h1

end Go.Proofs.YtckkmdigmecagaaDoor

/-
  The document's answer to chunk: digit.
-/
namespace Go.Proofs.YtckkmdigmecagaaDoor
open Go.RowKit

end Go.Proofs.YtckkmdigmecagaaDoor

/-
  The document's answer to chunk: a chunked body.
-/
namespace Go.Proofs.YtckkmdigmecagaaDoor
open Go.RowKit

/-- What the document tells, out of what Feed does. -/
def toldP (r : Nat × St) : Int × List UInt8 × Int := if r.2.bd = 0 then (if r.2.nx = 9 then ((r.1 : Nat) : Int) else -1, r.2.got, 0) else (0, [], r.2.bd)

theorem feed_step {s : St} {l : List UInt8} {j : Nat} {x : UInt8} {s' : St} {b : Int} (h : l[j]? = some x) (h9 : s.nx ≠ 9) (hb : s.bd = 0) (ht : takeP s x = (s', b)) : feedP s (l.drop j) = ((feedP { s' with bd := b } (l.drop (j + 1))).1 + 1, (feedP { s' with bd := b } (l.drop (j + 1))).2) := by
  rw [feedP_drop h, if_neg (by omega), ht]
/-- One byte on, the state at a place. -/
theorem feed_on {s0 s : St} {l : List UInt8} {j : Nat} {x : UInt8} {s' : St} {b : Int} (hH : feedP s0 l = ((feedP s (l.drop j)).1 + j, (feedP s (l.drop j)).2)) (h : l[j]? = some x) (h9 : s.nx ≠ 9) (hb : s.bd = 0) (ht : takeP s x = (s', b)) :
    feedP s0 l = ((feedP { s' with bd := b } (l.drop (j + 1))).1 + (j + 1), (feedP { s' with bd := b } (l.drop (j + 1))).2) := by
  rw [hH, feed_step h h9 hb ht]
  simp only [Nat.add_assoc, Nat.add_comm 1 j]
theorem feed_end {s0 s : St} {l : List UInt8} {j : Nat} (hH : feedP s0 l = ((feedP s (l.drop j)).1 + j, (feedP s (l.drop j)).2)) (h : (l.length ≤ j) ∨ s.nx = 9 ∨ s.bd ≠ 0) : feedP s0 l = (j, s) := by
  rw [hH]
  rcases h with h | h
  · rw [List.drop_eq_nil_of_le h]
    simp [feedP]
  · rw [feedP_stop h]
    simp

theorem take_digit {sz n : Int} {D : List UInt8} {x : UInt8} (h0 : 0 ≤ digP (x.toNat : Int)) (h8 : n < 8) : takeP ⟨2, sz, n, 0, D⟩ x = (⟨2, sz * 16 + digP (x.toNat : Int), n + 1, 0, D⟩, 0) := by simp [takeP, h0, h8]

theorem take_nodigit {sz n : Int} {D : List UInt8} {x : UInt8} (h : ¬ (0 ≤ digP (x.toNat : Int) ∧ n < 8)) : takeP ⟨2, sz, n, 0, D⟩ x = if n = 0 then (⟨2, sz, n, 0, D⟩, 4) else wantP ⟨2, sz, n, 0, D⟩ (x.toNat : Int) 13 3 := by
  unfold takeP
  rw [if_neg (by dsimp only; omega), if_pos rfl, if_neg h]
theorem take_lf {sz n : Int} {D : List UInt8} {x : UInt8} : takeP ⟨3, sz, n, 0, D⟩ x = if (x.toNat : Int) ≠ 10 then (⟨3, sz, 0, 0, D⟩, 4) else if 4096 - (D.length : Int) < sz then (⟨3, sz, 0, 0, D⟩, 2) else if sz = 0 then (⟨7, sz, 0, 0, D⟩, 0) else (⟨4, sz, 0, 0, D⟩, 0) := by
  unfold takeP
  rw [if_neg (by dsimp only; omega), if_neg (by dsimp only; omega), if_pos rfl]
theorem take_dat {sz : Int} {D : List UInt8} {x : UInt8} : takeP ⟨4, sz, 0, 0, D⟩ x = (⟨if 1 < sz then 4 else 5, sz - 1, 0, 0, D ++ [x]⟩, 0) := by
  unfold takeP
  rw [if_pos (.inr rfl)]
  rfl
theorem pow_step {sz n d : Nat} (h : sz < 16 ^ n) (hn : n < 8) (hd : d < 16) : sz * 16 + d < 16 ^ (n + 1) ∧ sz * 16 + d ≤ 4294967295 := by
  have h1 : (16 : Nat) ^ (n + 1) ≤ 16 ^ 8 := Nat.pow_le_pow_right (by omega) (by omega)
  have h2 : (16 : Nat) ^ 8 = 4294967296 := by decide
  have h3 : (16 : Nat) ^ (n + 1) = 16 ^ n * 16 := Nat.pow_succ ..
  omega

theorem told_set {w : World} {g : Nat} {u0 u1 u2 v0 v1 v2 : Value} {t : TypeId} (h : w.heap[g]? = some (.cells #[u0, u1, u2] t (0, 0))) :
    (((w.setCell ⟨g, 0, none⟩ v0).setCell ⟨g, 1, none⟩ v1).setCell ⟨g, 2, none⟩ v2).heap[g]? = some (.cells #[v0, v1, v2] t (0, 0)) :=
  heap_setCell v2 (heap_setCell v1 (heap_setCell v0 h))
theorem told_set_alloc {w : World} {g : Nat} {u0 u1 u2 v0 v1 v2 : Value} {t : TypeId} (h : w.heap[g]? = some (.cells #[u0, u1, u2] t (0, 0))) (ob : Obj) :
    (((((w.setCell ⟨g, 0, none⟩ v0).setCell ⟨g, 1, none⟩ v1).setCell ⟨g, 2, none⟩ v2).alloc ob).drew).heap[g]? = some (.cells #[v0, v1, v2] t (0, 0)) :=
  (Below.heap_alloc _ _ _ (Array.getElem?_eq_some_iff.1 (told_set h)).1).trans (told_set h)
theorem size_alloc_drew {w : World} {k : Nat} (h : k < w.heap.size) (ob : Obj) : k < ((w.alloc ob).drew).heap.size := by
  show k < (w.heap.push ob).size
  rw [Array.size_push]
  omega
theorem told_facts {w : World} {g : Nat} {t : TypeId} (h : w.heap[g]? = some (.cells #[.int .i64 0, .slice none 0 0, .int .i64 0] t (0, 0))) :
    w.cell? ⟨g, 0, none⟩ = some (.int .i64 0) ∧ w.cell? ⟨g, 1, none⟩ = some (.slice none 0 0) ∧ w.cell? ⟨g, 2, none⟩ = some (.int .i64 0) ∧ w.frozen? ⟨g, 0, none⟩ = false ∧ w.frozen? ⟨g, 1, none⟩ = false ∧ w.frozen? ⟨g, 2, none⟩ = false :=
  ⟨cell_of h rfl, cell_of h rfl, cell_of h rfl, frozen_of h, frozen_of h, frozen_of h⟩
theorem Own.lower {w : World} {b b' size n c : Nat} {e : TypeId} {A : Option Addr} {xs : List Value} (h : Own w b e size A n c xs) (hb : b' ≤ b) : Own w b' e size A n c xs :=
  ⟨h.rd, fun a ha => by
    obtain ⟨h1, h2, h3⟩ := h.own a ha
    exact ⟨h1, Nat.le_trans hb h2, h3⟩⟩
theorem told_world {w wr : World} {A : Option Addr} {n c : Nat} {e : TypeId} {xs : List Value} (hb : Below w.heap.size w wr) (ho : Own wr (w.heap.size + 1) e 1 A n c xs) (v0 v1 v2 : Value) :
    Own (((wr.setCell ⟨w.heap.size, 0, none⟩ v0).setCell ⟨w.heap.size, 1, none⟩ v1).setCell ⟨w.heap.size, 2, none⟩ v2) w.heap.size e 1 A n c xs ∧
    Below w.heap.size w (((wr.setCell ⟨w.heap.size, 0, none⟩ v0).setCell ⟨w.heap.size, 1, none⟩ v1).setCell ⟨w.heap.size, 2, none⟩ v2) := by
  refine ⟨(ho.lower (Nat.le_succ _)).keep fun g hg _ _ => ?_, ⟨hb.os, hb.tape, hb.output, ?_, fun k hk => ?_⟩⟩
  · have hne : w.heap.size ≠ g := by
      have := (ho.lt g hg).1
      omega
    rw [heap_setCell_ne _ hne, heap_setCell_ne _ hne, heap_setCell_ne _ hne]
  · simpa [World.setCell] using hb.size
  · have hne : w.heap.size ≠ k := by omega
    rw [heap_setCell_ne _ hne, heap_setCell_ne _ hne, heap_setCell_ne _ hne, hb.block k hk]

/-- The states behind a chunk's bytes: 13, 10, then the next chunk or the end. -/
def stK (sz k : Nat) : Int := if sz = 0 then (if k = 0 then 7 else if k = 1 then 8 else 9) else (if k = 0 then 5 else if k = 1 then 6 else 2)
theorem take_end (sz k : Nat) (D : List UInt8) (x : UInt8) (hk : k < 2) : takeP ⟨stK sz k, 0, 0, 0, D⟩ x = if (x.toNat : Int) = (if k = 0 then 13 else 10) then (⟨stK sz (k + 1), 0, 0, 0, D⟩, 0) else (⟨stK sz k, 0, 0, 0, D⟩, 4) := by
  have h2 : k = 0 ∨ k = 1 := by omega
  by_cases hz : sz = 0
  all_goals rcases h2 with rfl | rfl
  all_goals simp [stK, takeP, wantP, hz]
theorem stK_ne (sz k : Nat) (hk : k < 2) : stK sz k ≠ 9 := by
  have h2 : k = 0 ∨ k = 1 := by omega
  by_cases hz : sz = 0
  all_goals rcases h2 with rfl | rfl
  all_goals simp [stK, hz]
theorem told_open {j : Nat} {nx : Int} {D : List UInt8} (h : nx ≠ 9) : toldP (j, ⟨nx, 0, 0, 0, D⟩) = (-1, D, 0) := by simp [toldP, h]
theorem told_done {j : Nat} {D : List UInt8} : toldP (j, ⟨9, 0, 0, 0, D⟩) = ((j : Int), D, 0) := by simp [toldP]
theorem Rd.byteCell {W : World} {A : Option Addr} {n c k : Nat} {l : List UInt8} {x : UInt8} (h : Rd W 1 A n c (l.map b8)) (hx : l[k]? = some x) : W.cell? (at_ A k) = some (.int .u8 (x.toNat : Int)) :=
  h.cell k _ (by rw [List.getElem?_map, hx]; rfl)

end Go.Proofs.YtckkmdigmecagaaDoor

/-
  Slices of slices of bytes: a row at a place; cofferlaw0's Sum.
-/
namespace Go.Proofs.YtckkmdigmecagaaDoor
open Go.RowKit

theorem er : ElemT Tryd.prog 29 22 (.slice none 0 0) 1 24 := ElemT.of Tryd.underlying29 (by kernel_rfl) rfl (by omega)

theorem Rows2.keep {w w' : World} {A : Option Addr} {n c : Nat} {ll : List Row} (h : Rows2 w A n c ll) (h1 : Below w.heap.size w w') : Rows2 w' A n c ll := ⟨h.rd.below h1, fun r hr => (h.each r hr).below h1⟩
theorem Rows2.len {w : World} {A : Option Addr} {n c : Nat} {ll : List Row} (h : Rows2 w A n c ll) : ll.length = n := by simpa using h.rd.len
theorem Rows2.at {w : World} {A : Option Addr} {n c : Nat} {ll : List Row} (h : Rows2 w A n c ll) (J : Int) (k : Nat) (hJ : J = k) (hk : k < n) :
    ∃ r, Hid (ll[k]? = some r) ∧ (∀ W, (Instr.indexAt 29 (.slice A n c) (.int .i64 J)).run Tryd.prog W = .ok (.pointer (some (at_ A k))) W) ∧
      w.cell? (at_ A k) = some (.slice r.A r.n r.c) ∧ Rd w 1 r.A r.n r.c (r.l.map b8) ∧ r.n ≤ maxLen := by
  subst hJ
  have hl := h.len
  have hkl : k < ll.length := by omega
  have hr := h.each ll[k] (List.getElem_mem hkl)
  refine ⟨ll[k], List.getElem?_eq_getElem hkl, fun W => by simpa using run_index_rd er h.rd.nil h.rd.le k hk W, h.rd.cell k _ ?_, hr, Nat.le_trans hr.le hr.max⟩
  rw [List.getElem?_map, List.getElem?_eq_getElem hkl]
  rfl

/-- How many bytes; at most a little more than most. -/
def sumP (most : Nat) : Nat → List Row → Nat
  | acc, [] => acc
  | acc, r :: ll => if most < acc then acc else if most < r.n then most + 1 else sumP most (acc + r.n) ll
theorem sumP_drop {most : Nat} {ll : List Row} {j : Nat} {r : Row} (h : ll[j]? = some r) (acc : Nat) : sumP most acc (ll.drop j) = if most < acc then acc else if most < r.n then most + 1 else sumP most (acc + r.n) (ll.drop (j + 1)) := by
  obtain ⟨hj, rfl⟩ := List.getElem?_eq_some_iff.1 h
  rw [List.drop_eq_getElem_cons hj, sumP]
theorem sumP_over {most : Nat} {ll : List Row} {acc : Nat} (h : most < acc) : sumP most acc ll = acc := by
  cases ll with
  | nil => rfl
  | cons r ll => rw [sumP, if_pos h]

end Go.Proofs.YtckkmdigmecagaaDoor
