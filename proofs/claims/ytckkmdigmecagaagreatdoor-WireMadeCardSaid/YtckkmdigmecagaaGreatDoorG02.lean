/-
  Joined texts of this claim's author (each began as a text of its own; each says itself what it holds).
-/
import Derived.Test.YtckkmdigmecagaaGreatDoorG01
import Derived.Lib.Split
import Derived.Test.YtckkmdigmecagaaGreatDoorG00
import Derived.Lib.ConvBytes
import Derived.Lib.SlBytesConst
import Derived.Laws.Rows
import Derived.Shelf.Strings.SlTrimAscii
import Derived.Shelf.SlSorted.Search
import Derived.Laws.StructEq
import Derived.Stop.BytesEq
import Derived.ProofKit
import Derived.OpenShut
import Derived.ShutString
import Derived.ChangeOld
import Derived.Deep.Slices
import Derived.Lib.SmallJoins
import Derived.Deep.Strs
import Derived.Deep.SlicePairs
import Derived.OrdersHeld
import Derived.Deep.RegionHeld
import Derived.BigQuiet
set_option linter.unusedVariables false
set_option linter.unusedSimpArgs false

/-
  Strings that are lists of bytes: cuts, bytes, lengths.
-/
namespace Go.Proofs.YtckkmdigmecagaaGreatDoor
open Go.RowKit

theorem size_mk (l : List UInt8) : (⟨l.toArray⟩ : ByteArray).size = l.length := by simp [ByteArray.size]
theorem run_str_l {P : Program} {t : TypeId} (ht : P.underlying t = some .string) (l : List UInt8) (k : Nat) (hk : k ≤ l.length) {kl : IntKind} (W : World) :
    (Instr.sliceAt t (.string ⟨l.toArray⟩) (some (.int kl (k : Int))) none none).run P W = .ok (.string ⟨(l.drop k).toArray⟩) W := by
  have hs := size_mk l
  rw [run_sliceAt_string (h := ht), run_slice_string_l (ht := ht) (h0 := by omega) (h1 := by rw [hs]; omega)]
  congr 2
  apply ByteArray.ext
  apply Array.ext'
  simp [ByteArray.data_extract, hs]
  exact List.take_of_length_le (by rw [List.length_drop]; omega)
theorem run_str_lh {P : Program} {t : TypeId} (ht : P.underlying t = some .string) (l : List UInt8) (i j : Nat) (hij : i ≤ j) (hj : j ≤ l.length) {kl kh : IntKind} {I J : Int} (hI : I = i) (hJ : J = j) (W : World) :
    (Instr.sliceAt t (.string ⟨l.toArray⟩) (some (.int kl I)) (some (.int kh J)) none).run P W = .ok (.string ⟨((l.drop i).take (j - i)).toArray⟩) W := by
  subst hI hJ
  have hs := size_mk l
  have hr : (Instr.slice t (.string ⟨l.toArray⟩) (some (.int kl (i : Int))) (some (.int kh (j : Int))) none).run P W = .ok (.string ((⟨l.toArray⟩ : ByteArray).extract i j)) W := by
    simp [Instr.slice, run_underlying ht, Instr.sliceBounds, run_sliceBound, sliced, hij, hs, hj, (by omega : (0 : Int) ≤ i), (by omega : (0 : Int) ≤ j)]
  rw [run_sliceAt_string (h := ht), hr]
  congr 2
  apply ByteArray.ext
  apply Array.ext'
  simp [ByteArray.data_extract, hs]
  try rw [List.drop_take]
theorem run_str_at {P : Program} {t : TypeId} (ht : P.underlying t = some .string) (l : List UInt8) (k : Nat) (x : UInt8) (hk : l[k]? = some x) {kl : IntKind} (W : World) :
    (Instr.index t (.string ⟨l.toArray⟩) (.int kl (k : Int))).run P W = .ok (.int .u8 (x.toNat : Int)) W := by
  obtain ⟨hl, hx⟩ := List.getElem?_eq_some_iff.1 hk
  have hs := size_mk l
  rw [run_index_string (P := P) W t _ kl (k : Int) ht, dif_pos ⟨by omega, by rw [hs]; omega⟩]
  have e : (k : Int).toNat = k := Int.toNat_natCast k
  simp only [e]
  congr 3
  rw [← hx]
  simp [ByteArray.getElem_eq_getElem_data]

end Go.Proofs.YtckkmdigmecagaaGreatDoor

/-
  Lists of bytes cut at one byte: at the first, at all.
-/
namespace Go.Proofs.YtckkmdigmecagaaGreatDoor
open Go.RowKit

/-- Ahead of the first c, behind it, whether it is there. -/
def cut1 (c : UInt8) : List UInt8 → List UInt8 × List UInt8 × Bool
  | [] => ([], [], false)
  | x :: l => if x = c then ([], l, true) else (x :: (cut1 c l).1, (cut1 c l).2)
/-- The pieces between all c. -/
def split1 (c : UInt8) : List UInt8 → List (List UInt8)
  | [] => [[]]
  | x :: l => if x = c then [] :: split1 c l else match split1 c l with
    | p :: ps => (x :: p) :: ps
    | [] => [[x]]
theorem split1_ne (c : UInt8) : ∀ l, split1 c l ≠ []
  | [] => by simp [split1]
  | x :: l => by
    rw [split1]
    split
    · simp
    · split <;> simp
theorem cut1_app (c : UInt8) : ∀ l, (cut1 c l).2.2 = true → l = (cut1 c l).1 ++ c :: (cut1 c l).2.1
  | [], h => by simp [cut1] at h
  | x :: l, h => by
    rw [cut1] at h ⊢
    split
    · rename_i hx
      rw [hx]
      rfl
    · rename_i hx
      rw [if_neg hx] at h
      rw [List.cons_append, ← cut1_app c l h]
theorem cut1_none (c : UInt8) : ∀ l, (cut1 c l).2.2 = false → (cut1 c l).1 = l ∧ (cut1 c l).2.1 = [] ∧ c ∉ l
  | [], _ => ⟨rfl, rfl, by simp⟩
  | x :: l, h => by
    rw [cut1] at h ⊢
    split
    · rename_i hx
      rw [if_pos hx] at h
      cases h
    · rename_i hx
      rw [if_neg hx] at h
      obtain ⟨h1, h2, h3⟩ := cut1_none c l h
      exact ⟨by rw [h1], h2, by simp [h3, Ne.symm hx]⟩
theorem cut1_mem (c : UInt8) : ∀ l, c ∉ (cut1 c l).1
  | [] => by simp [cut1]
  | x :: l => by
    rw [cut1]
    split
    · simp
    · rename_i hx
      have := cut1_mem c l
      simp [this, Ne.symm hx]
theorem cut1_le (c : UInt8) (l : List UInt8) : (cut1 c l).1.length ≤ l.length ∧ (cut1 c l).2.1.length ≤ l.length := by
  cases h : (cut1 c l).2.2
  · obtain ⟨h1, h2, _⟩ := cut1_none c l h
    rw [h1, h2]
    simp
  · have := congrArg List.length (cut1_app c l h)
    rw [List.length_append, List.length_cons] at this
    omega

theorem index_nil1 (c : UInt8) : Lib.index [] [c] = -1 := rfl
theorem index_cons1 (c x : UInt8) (l : List UInt8) : Lib.index (x :: l) [c] = if x = c then 0 else if Lib.index l [c] = -1 then -1 else Lib.index l [c] + 1 := by
  by_cases h : x = c
  · subst h
    rw [if_pos rfl]
    simp [Lib.index]
  · rw [if_neg h]
    have : (x == c) = false := by simpa using h
    have h2 : (c == x) = false := by simpa using Ne.symm h
    simp [Lib.index, this, h2, h, Ne.symm h]
theorem cut_one (c : UInt8) : ∀ l, Lib.cut l [c] = cut1 c l
  | [] => by
    unfold Lib.cut
    rw [index_nil1]
    rfl
  | x :: l => by
    have ih := cut_one c l
    have hge := Lib.index_ge l [c]
    unfold Lib.cut at ih ⊢
    rw [index_cons1, cut1]
    by_cases hx : x = c
    · rw [if_pos hx, if_pos hx]
      simp
    · rw [if_neg hx, if_neg hx]
      by_cases hi : Lib.index l [c] = -1
      · rw [if_pos hi, if_neg (by omega)]
        rw [if_neg (by omega)] at ih
        rw [← ih]
      · rw [if_neg hi, if_pos (by omega)]
        rw [if_pos (by omega)] at ih
        rw [← ih]
        obtain ⟨k, hk⟩ : ∃ k : Nat, Lib.index l [c] = k := ⟨(Lib.index l [c]).toNat, by omega⟩
        rw [hk]
        have e : ((k : Int) + 1).toNat = k + 1 := by omega
        rw [e]
        simp [Nat.add_right_comm]
theorem split1_cut (c : UInt8) : ∀ l, split1 c l = if (cut1 c l).2.2 then (cut1 c l).1 :: split1 c (cut1 c l).2.1 else [l]
  | [] => rfl
  | x :: l => by
    rw [split1, cut1]
    by_cases hx : x = c
    · rw [if_pos hx, if_pos hx]
      rfl
    · rw [if_neg hx, if_neg hx]
      dsimp only
      have ih := split1_cut c l
      split at ih
      · rename_i h
        rw [ih, if_pos h]
      · rename_i h
        rw [ih, if_neg h]
/-- What the library's Split makes. -/
theorem splitK_one (c : UInt8) : ∀ (k : Nat) (l : List UInt8), Lib.count l [c] = k → Lib.splitK [c] 0 k l = split1 c l
  | 0, l, h => by
    rw [split1_cut]
    have hm : Lib.index l [c] = -1 := by
      by_cases hi : Lib.index l [c] = -1
      · exact hi
      · have hge := Lib.index_ge l [c]
        obtain ⟨i, hi2⟩ : ∃ i : Nat, Lib.index l [c] = i := ⟨(Lib.index l [c]).toNat, by omega⟩
        have := Lib.count_hit (by simp) hi2
        omega
    have hc := cut_one c l
    unfold Lib.cut at hc
    rw [if_neg (by omega)] at hc
    rw [← hc]
    rfl
  | k + 1, l, h => by
    have hge := Lib.index_ge l [c]
    have hne : Lib.index l [c] ≠ -1 := by
      intro hm
      rw [Lib.count_miss hm] at h
      omega
    obtain ⟨i, hi⟩ : ∃ i : Nat, Lib.index l [c] = i := ⟨(Lib.index l [c]).toNat, by omega⟩
    have hc := cut_one c l
    unfold Lib.cut at hc
    rw [if_pos (by omega), hi] at hc
    have h2 := Lib.count_hit (s := l) (sub := [c]) (by simp) hi
    rw [split1_cut, ← hc, Lib.splitK, if_neg (by rw [hi]; simp), hi]
    simp only [Int.toNat_natCast, Nat.add_zero, List.length_cons, List.length_nil, Nat.zero_add, if_true] at h2 ⊢
    rw [splitK_one c k _ (by omega)]

end Go.Proofs.YtckkmdigmecagaaGreatDoor

/-
  Strings and bytes: []byte(s) as a step of a walk; a block known whole, stored whole; operations that are guarded.
-/
namespace Go.Proofs.YtckkmdigmecagaaGreatDoor
open Go.RowKit

theorem Rd.drop_ {w : World} {A : Option Addr} {n c : Nat} {l : List UInt8} (h : Rd w 1 A n c (l.map b8)) {k : Nat} (hk : k ≤ n) : Rd w 1 (cutA A c k 1) (n - k) (c - k) ((l.drop k).map b8) := by
  have h1 := h.cut (lo := k) (hi := n) hk (Nat.le_refl _)
  rw [Nat.mul_one, Nat.mul_one, ← List.map_drop, List.take_of_length_le (by have := h.lenb; simp; omega)] at h1
  exact h1
theorem Rd.take_ {w : World} {A : Option Addr} {n c : Nat} {l : List UInt8} (h : Rd w 1 A n c (l.map b8)) {k : Nat} (hk : k ≤ n) : Rd w 1 A k c ((l.take k).map b8) := by
  have := h.lenb
  refine ⟨by simp; omega, Nat.le_trans hk h.le, h.max, h.nil, fun j u hu => h.cell j u ?_⟩
  rw [List.map_take, List.getElem?_take] at hu
  split at hu
  · exact hu
  · cases hu

section
variable {P : Program} {w : World} {e src dst : TypeId}
variable {ops : Array Oper} {rest : List Oper} {o : Oper} {a : Act} {Q : Exit → Act → World → Prop}

theorem grownCap_ge' (w : World) (n : Nat) (e : TypeId) : n ≤ grownCap w n 0 e := grownCap_ge w n 0 e
theorem bytesWorld_below (w : World) (e : TypeId) (s : ByteArray) : Below w.heap.size w (Lib.bytesWorld w e s) :=
  ⟨rfl, rfl, rfl, by rw [Lib.bytesWorld_size]; omega, fun k hk => Lib.bytesWorld_at_old w e s k hk⟩
theorem bytesWorld_own (w : World) (e : TypeId) (s : ByteArray) (hs : s.size ≤ 1073741824) : Own (Lib.bytesWorld w e s) w.heap.size e 1 (some ⟨w.heap.size, 0, none⟩) s.size (grownCap w s.size 0 e) (s.data.toList.map b8) := by
  have hge := grownCap_ge w s.size 0 e
  have hnew := Lib.bytesWorld_at_new w e s
  have hsz : (Lib.bytesCells w e s).size = grownCap w s.size 0 e := by
    have : s.data.size = s.size := rfl
    simp only [Lib.bytesCells, Array.size_append, Array.size_map, Array.size_replicate, this]
    omega
  have hm : grownCap w s.size 0 e ≤ maxLen := grownCap_le_maxLen w s.size 0 e (by unfold maxLen; omega)
  refine ⟨⟨by simp, hge, hm, (fun h => by cases h), fun j u hu => ?_⟩, fun a ha => ?_⟩
  · rw [at_some]
    have e1 : (⟨w.heap.size, 0, none⟩ : Addr).add j = ⟨w.heap.size, j, none⟩ := by unfold Addr.add; split <;> simp_all
    have hj : j < s.size := by
      have := (List.getElem?_eq_some_iff.1 hu).1
      simpa using this
    rw [e1, Lib.bytesWorld_cell w e s j hj]
    rw [List.getElem?_map] at hu
    have hjl : j < s.data.toList.length := by simpa using hj
    rw [List.getElem?_eq_getElem hjl] at hu
    simp only [Option.map_some, Option.some.injEq] at hu
    subst hu
    simp only [List.getD, List.getElem?_eq_getElem hjl, Option.getD_some]
    rfl
  · obtain rfl := Option.some.inj ha
    exact ⟨rfl, Nat.le_refl _, _, _, hnew, by simp only [hsz]; omega, fun j _ hj => by
      dsimp only at hj
      simp only [hsz]
      omega⟩

/-- []byte(s). -/
theorem wpList_s2b (hgd : o.guard = none) (x : Operand) (ho : o.op = .convert src dst x) (hs : P.underlying src = some .string) (hd : P.underlying dst = some (.slice e)) (he : P.underlying e = some (.int .u8))
    (s : ByteArray) (hx : a.eval x = .string s) (hsz : s.size ≤ 1073741824)
    (k : ∀ c' w', Own w' w.heap.size e 1 (some ⟨w.heap.size, 0, none⟩) s.size c' (s.data.toList.map b8) → Below w.heap.size w w' → wpList P ops Q rest (a.put o.dst (.slice (some ⟨w.heap.size, 0, none⟩) s.size c')) w') :
    wpList P ops Q (o :: rest) a w := by
  refine wpList_plain hgd fun K hK => ?_
  have hrun := Lib.run_convert_string_bytes w src dst e s hs hd he
  unfold Oper.wp execOp
  simp only [ho, hx, hrun, Sem.run_bind, Result.andThen_ok, Sem.run_pure]
  exact hK _ _ (k _ _ (bytesWorld_own w e s hsz) (bytesWorld_below w e s))

/-- An operation that is reached, guarded or not. -/
theorem wpList_taken (hw : Region.wanted o (yielded ops a.tmps) = true)
    (h : ∀ K : Act → World → Prop, (∀ a w, wpList P ops Q rest a w → K a w) → o.wp P a w K Q) : wpList P ops Q (o :: rest) a w :=
  wpList_step fun K hK => by simp only [hw, if_true]; exact h K hK
/-- A block known whole, loaded. -/
theorem wpList_load_all (hw : Region.wanted o (yielded ops a.tmps) = true) (ty : TypeId) (x : Operand) (ho : o.op = .load ty x)
    (g : Nat) (hx : a.eval x = .pointer (some ⟨g, 0, none⟩)) (t : TypeId) (cs : Array Value) (fr : Nat × Nat) (d : TypeDesc) (hg : w.heap[g]? = some (.cells cs t fr))
    (hu : P.underlying ty = some d) (hd : (match d with | .struct _ | .array _ _ => true | _ => false) = true) (hi : (P.info? ty).map (·.size) = some cs.size)
    (h : wpList P ops Q rest (a.put o.dst (.agg cs)) w) : wpList P ops Q (o :: rest) a w :=
  wpList_taken hw fun _ hK => wp_load_row ty x ho g hx t cs fr d hg hu hd hi (hK _ _ h)

theorem sizeOf_run {P : Program} {ty : TypeId} {n : Nat} (hi : (P.info? ty).map (·.size) = some n) (W : World) : (sizeOf ty).run P W = .ok n W := by
  cases h : P.info? ty with
  | none => simp [h] at hi
  | some i =>
    simp [h] at hi
    simp [sizeOf, typeInfo, h, hi]
/-- A whole value stored over a block of its size. -/
theorem run_storeVar_all {ty t : TypeId} {g : Nat} {cs vs : Array Value} (hg : w.heap[g]? = some (.cells cs t (0, 0))) (hi : (P.info? ty).map (·.size) = some vs.size) (hs : cs.size = vs.size) (h1 : ∀ v ∈ vs.toList, v.oneCell' = true) :
    (storeVar ty ⟨g, 0, none⟩ (.agg vs)).run P w = .ok () (w.setRow g vs) := by
  have h := run_storeCells_fr P g 0 t (0, 0) vs.toList 0 cs w hg (by simp [hs]) (fun j _ _ => by omega) h1
  have e : (cs.toList.take (0 + 0) ++ vs.toList ++ cs.toList.drop (0 + 0 + vs.toList.length)).toArray = vs := by
    have : cs.toList.drop vs.size = [] := List.drop_eq_nil_of_le (by simp [hs])
    simp [this]
  rw [e] at h
  simp only [storeVar, Sem.run_bind, sizeOf_run hi, Result.andThen_ok, Value.cells, ne_eq, not_true_eq_false, if_false, h]
theorem wpList_store_all (hw : Region.wanted o (yielded ops a.tmps) = true) (ty : TypeId) (x y : Operand) (ho : o.op = .store ty x y) (g : Nat) (hx : a.eval x = .pointer (some ⟨g, 0, none⟩)) (t : TypeId) (cs vs : Array Value) (hy : a.eval y = .agg vs) (hg : w.heap[g]? = some (.cells cs t (0, 0)))
    (hi : (P.info? ty).map (·.size) = some vs.size) (hs : cs.size = vs.size) (h1 : ∀ v ∈ vs.toList, v.oneCell' = true)
    (k : ∀ w', w'.heap[g]? = some (.cells vs t (0, 0)) → w.grownBy w' (some g) → w'.heap.size = w.heap.size → wpList P ops Q rest (a.put o.dst undef) w') : wpList P ops Q (o :: rest) a w := by
  refine wpList_taken hw fun K hK => ?_
  have hrun := run_storeVar_all (P := P) (ty := ty) hg hi hs h1
  unfold Oper.wp execOp
  simp only [ho, hx, hy, Instr.storeAt, Instr.sureAddr, Sem.run_bind, Sem.run_pure, Result.andThen_ok, hrun]
  exact hK _ _ (k _ (setRow_heap w g cs vs t (0, 0) hg) ⟨rfl, rfl, rfl, by simp, fun q _ hq => setRow_other w g q _ (fun e => hq (by rw [e]))⟩ (by simp))
theorem wp_store_all {K : Act → World → Prop} (ty : TypeId) (x y : Operand) (ho : o.op = .store ty x y) (g : Nat) (hx : a.eval x = .pointer (some ⟨g, 0, none⟩)) (t : TypeId) (cs vs : Array Value) (hy : a.eval y = .agg vs) (hg : w.heap[g]? = some (.cells cs t (0, 0)))
    (hi : (P.info? ty).map (·.size) = some vs.size) (hs : cs.size = vs.size) (h1 : ∀ v ∈ vs.toList, v.oneCell' = true)
    (k : ∀ w', w'.heap[g]? = some (.cells vs t (0, 0)) → w.grownBy w' (some g) → w'.heap.size = w.heap.size → K (a.put o.dst undef) w') : o.wp P a w K Q := by
  have hrun := run_storeVar_all (P := P) (ty := ty) hg hi hs h1
  unfold Oper.wp execOp
  simp only [ho, hx, hy, Instr.storeAt, Instr.sureAddr, Sem.run_bind, Sem.run_pure, Result.andThen_ok, hrun]
  exact k _ (setRow_heap w g cs vs t (0, 0) hg) ⟨rfl, rfl, rfl, by simp, fun q _ hq => setRow_other w g q _ (fun e => hq (by rw [e]))⟩ (by simp)
theorem wp_alloc_zero {K : Act → World → Prop} (ty : TypeId) (ho : o.op = .alloc ty) (z : Array Value) (hz : (P.info? ty).map (·.zero) = some (some (.agg z)))
    (k : ∀ w', w'.heap[w.heap.size]? = some (.cells z ty (0, 0)) → Below w.heap.size w w' → w'.heap.size = w.heap.size + 1 → K (a.put o.dst (.pointer (some ⟨w.heap.size, 0, none⟩))) w') : o.wp P a w K Q := by
  have hrun : (Instr.alloc ty true (.tuple #[])).run P w = .ok (.pointer (some ⟨w.heap.size, 0, none⟩)) (w.alloc (.cells z ty)) := by
    cases h : P.info? ty with
    | none => simp [h] at hz
    | some i =>
      simp [h] at hz
      simp [Instr.alloc, zeroValue, typeInfo, h, hz, newVar, newRow, Value.cells]
  unfold Oper.wp execOp
  simp only [ho, Sem.run_bind, Sem.run_pure, Result.andThen_ok, hrun]
  exact k _ (by show (w.heap.push _)[w.heap.size]? = _; simp) ((Below.refl _ _).alloc (Nat.le_refl _) _) (by simp)
/-- A new variable of a kind whose zero value is known. -/
theorem wpList_alloc_zero (hw : Region.wanted o (yielded ops a.tmps) = true) (ty : TypeId) (ho : o.op = .alloc ty) (z : Array Value) (hz : (P.info? ty).map (·.zero) = some (some (.agg z)))
    (k : ∀ w', w'.heap[w.heap.size]? = some (.cells z ty (0, 0)) → Below w.heap.size w w' → w'.heap.size = w.heap.size + 1 → wpList P ops Q rest (a.put o.dst (.pointer (some ⟨w.heap.size, 0, none⟩))) w') : wpList P ops Q (o :: rest) a w := by
  refine wpList_taken hw fun K hK => ?_
  have hrun : (Instr.alloc ty true (.tuple #[])).run P w = .ok (.pointer (some ⟨w.heap.size, 0, none⟩)) (w.alloc (.cells z ty)) := by
    cases h : P.info? ty with
    | none => simp [h] at hz
    | some i =>
      simp [h] at hz
      simp [Instr.alloc, zeroValue, typeInfo, h, hz, newVar, newRow, Value.cells]
  unfold Oper.wp execOp
  simp only [ho, Sem.run_bind, Sem.run_pure, Result.andThen_ok, hrun]
  exact hK _ _ (k _ (by show (w.heap.push _)[w.heap.size]? = _; simp) ((Below.refl _ _).alloc (Nat.le_refl _) _) (by simp))
theorem wpList_box (hw : Region.wanted o (yielded ops a.tmps) = true) (ty : TypeId) (x : Operand) (ho : o.op = .box ty x) (cs : Array Value) (hx : a.eval x = .agg cs)
    (k : ∀ w', w'.heap[w.heap.size]? = some (.cells cs ty (0, 0)) → Below w.heap.size w w' → w'.heap.size = w.heap.size + 1 → wpList P ops Q rest (a.put o.dst (.pointer (some ⟨w.heap.size, 0, none⟩))) w') : wpList P ops Q (o :: rest) a w := by
  refine wpList_taken hw fun K hK => ?_
  have hrun : (Instr.box ty (.agg cs)).run P w = .ok (.pointer (some ⟨w.heap.size, 0, none⟩)) (w.alloc (.cells cs ty)) := by simp [Instr.box, newVar, newRow, Value.cells]
  unfold Oper.wp execOp
  simp only [ho, hx, Sem.run_bind, Sem.run_pure, Result.andThen_ok, hrun]
  exact hK _ _ (k _ (by show (w.heap.push _)[w.heap.size]? = _; simp) ((Below.refl _ _).alloc (Nat.le_refl _) _) (by simp))
/-- A load, a build, whose run is known. -/
theorem wpList_load_run (hw : Region.wanted o (yielded ops a.tmps) = true) (ty : TypeId) (x : Operand) (ho : o.op = .load ty x) (ad : Addr) (hx : a.eval x = .pointer (some ad)) (v : Value) (hrun : (loadVar ty ad).run P w = .ok v w)
    (k : wpList P ops Q rest (a.put o.dst v) w) : wpList P ops Q (o :: rest) a w := by
  refine wpList_taken hw fun K hK => ?_
  unfold Oper.wp execOp
  simp only [ho, hx, Instr.loadAt, Instr.sureAddr, Sem.run_bind, Sem.run_pure, Result.andThen_ok, hrun]
  exact hK _ _ k
theorem wpList_build_run (hw : Region.wanted o (yielded ops a.tmps) = true) (ty : TypeId) (parts : Array (Nat × Operand)) (ho : o.op = .build ty parts) (vs : Array (Nat × Value)) (hx : (parts.map fun (i, x) => (i, a.eval x)) = vs) (v : Value) (hrun : (Instr.build ty vs).run P w = .ok v w)
    (k : wpList P ops Q rest (a.put o.dst v) w) : wpList P ops Q (o :: rest) a w := by
  refine wpList_taken hw fun K hK => ?_
  unfold Oper.wp execOp
  simp only [ho, hx, Sem.run_bind, Sem.run_pure, Result.andThen_ok, hrun]
  exact hK _ _ k
/-- An array of one-cell elements, loaded out of a row. -/
theorem run_loadVar_arr {ty e : TypeId} {n c : Nat} {ad : Addr} {xs : List Value} (hu : P.underlying ty = some (.array n e)) (hi : (P.info? ty).map (·.size) = some n) (h : Rd w 1 (some ad) n c xs) : (loadVar ty ad).run P w = .ok (.agg xs.toArray) w := by
  have hl := run_loadCells_list (P := P) w ad xs (fun j v hv => by have := h.cell j v hv; rwa [at_some] at this)
  have hxn : xs.length = n := by simpa using h.len
  rw [hxn] at hl
  simp [loadVar, isAgg, run_underlying hu, sizeOf_run hi, hl]
end

end Go.Proofs.YtckkmdigmecagaaGreatDoor

/-
  The library's Cut and Split in plain words.
-/
namespace Go.Proofs.YtckkmdigmecagaaGreatDoor
open Go.RowKit

/-- The library's variable's block. -/
def mxb : Nat := 1
/-- The library's variable holds some integer. -/
def Mx (w : World) : Prop := ∃ m, w.cell? ⟨1, 0, none⟩ = some (.int .i64 m)
theorem Mx.below {w w' : World} (h : Mx w) (hb : Below w.heap.size w w') : Mx w' := by
  obtain ⟨m, hm⟩ := h
  have hlt := World.block_lt_of_cell? w _ hm
  exact ⟨m, by rw [← hm]; exact World.cell?_of_block (hb.block _ hlt)⟩
theorem Cut_any (c : UInt8) (s : List UInt8) (hs : s.length < 4294967281) (w : World) (hm : Mx w) :
    Calls Tryz.prog 57 #[.string ⟨s.toArray⟩, .string ⟨#[c]⟩] w fun e w' => e = .returned (.tuple #[.string ⟨(cut1 c s).1.toArray⟩, .string ⟨(cut1 c s).2.1.toArray⟩, .bool (cut1 c s).2.2]) ∧ Below w.heap.size w w' := by
  obtain ⟨m, hm⟩ := hm
  refine (Tryz.strings_Cut ⟨s.toArray⟩ ⟨#[c]⟩ m w (by rw [size_mk]; exact hs) hm).mono ?_
  rintro e w' ⟨rfl, q, rfl⟩
  refine ⟨?_, below_drewN (Below.refl _ _) q⟩
  have e1 : Lib.cut (⟨s.toArray⟩ : ByteArray).data.toList (⟨#[c]⟩ : ByteArray).data.toList = cut1 c s := cut_one c s
  rw [e1]
theorem Split_any (c : UInt8) (s : List UInt8) (hs : s.length < 4294967281) (w : World) (hm : Mx w) :
    Calls Tryz.prog 77 #[.string ⟨s.toArray⟩, .string ⟨#[c]⟩] w fun e w' => e = .returned (.slice (some ⟨w.heap.size, 0, none⟩) (split1 c s).length (split1 c s).length) ∧ w' = w.alloc (.cells ((split1 c s).map fun p => Value.string ⟨p.toArray⟩).toArray 9) := by
  obtain ⟨m, hm⟩ := hm
  refine (Tryz.strings_Split ⟨s.toArray⟩ ⟨#[c]⟩ m w (by rw [size_mk]; exact hs) hm (show 1 ≤ (⟨#[c]⟩ : ByteArray).size from Nat.le_refl 1)).mono ?_
  rintro e w' ⟨rfl, rfl⟩
  have h1 : (Lib.splitB ⟨#[c]⟩ 0 (Lib.countB ⟨s.toArray⟩ ⟨#[c]⟩) ⟨s.toArray⟩).map (·.data.toList) = split1 c s := by
    rw [Lib.splitB_data]
    exact splitK_one c _ s rfl
  have h2 : (Lib.splitB ⟨#[c]⟩ 0 (Lib.countB ⟨s.toArray⟩ ⟨#[c]⟩) ⟨s.toArray⟩).length = Lib.countB ⟨s.toArray⟩ ⟨#[c]⟩ + 1 := Lib.splitB_all _ (show 1 ≤ (⟨#[c]⟩ : ByteArray).size from Nat.le_refl 1) 0 _ _ rfl
  have h3 : (split1 c s).length = Lib.countB ⟨s.toArray⟩ ⟨#[c]⟩ + 1 := by rw [← h1, List.length_map, h2]
  have h4 : (Lib.splitB ⟨#[c]⟩ 0 (Lib.countB ⟨s.toArray⟩ ⟨#[c]⟩) ⟨s.toArray⟩).map Value.string = (split1 c s).map fun p => Value.string ⟨p.toArray⟩ := by
    rw [← h1, List.map_map]
    rfl
  rw [h3, h4]
  exact ⟨rfl, rfl⟩

end Go.Proofs.YtckkmdigmecagaaGreatDoor

/-
  Package field: the library's Cut, Trim, Split in plain words; letter.
-/
namespace Go.Proofs.YtckkmdigmecagaaGreatDoor.Fl
open Go.RowKit

def blk2 : List UInt8 := [32, 9]
/-- Without blanks at both ends. -/
def trimL (s : List UInt8) : List UInt8 := Lib.trimS s blk2
theorem Trim_any (s : List UInt8) (hs : s.length ≤ 1073741824) (w : World) :
    Calls Tryz.prog 67 #[.string ⟨s.toArray⟩, .string ⟨#[32, 9]⟩] w fun e w' => e = .returned (.string ⟨(trimL s).toArray⟩) ∧ Below w.heap.size w w' :=
  Any.strings_Trim_laid Tryz.lays160 (by kernel_rfl) ⟨s.toArray⟩ ⟨#[32, 9]⟩ w (by rw [size_mk]; omega) (by decide) (ascii_of_all (by decide))
/-! ### letter -/
def isL (x : UInt8) : Bool := (decide (97 ≤ x.toNat) && decide (x.toNat ≤ 122)) || (decide (65 ≤ x.toNat) && decide (x.toNat ≤ 90))
theorem or32' : ∀ c : Fin 256, c.1 ||| 32 = if c.1 / 32 % 2 = 1 then c.1 else c.1 + 32 := by decide +kernel
theorem or32 (c : Nat) (h : c < 256) : bits .or .u8 (c : Int) 32 = ((c ||| 32 : Nat) : Int) := u8_or_nat c 32 h (by omega)
theorem letter_fin : ∀ c : Fin 256, (decide (97 ≤ c.1 ||| 32) && decide (c.1 ||| 32 ≤ 122) && decide (65 ≤ c.1)) = ((decide (97 ≤ c.1) && decide (c.1 ≤ 122)) || (decide (65 ≤ c.1) && decide (c.1 ≤ 90))) := by decide +kernel
set_option maxHeartbeats 1000000 in
theorem letter_any (x : UInt8) (w : World) : Calls Tryz.prog 65 #[.int .u8 (x.toNat : Int)] w fun e w' => e = .returned (.bool (isL x)) ∧ w = w' := by
  have hx := x.toNat_lt
  have hor := or32 x.toNat hx
  have hf := letter_fin ⟨x.toNat, hx⟩
  dsimp only at hf
  have hL : isL x = (decide (97 ≤ x.toNat ||| 32) && decide (x.toNat ||| 32 ≤ 122) && decide (65 ≤ x.toNat)) := by unfold isL; rw [hf]
  obtain ⟨y, hy⟩ : ∃ y, x.toNat ||| 32 = y := ⟨_, rfl⟩
  obtain ⟨z, hz⟩ : ∃ z, x.toNat = z := ⟨_, rfl⟩
  rw [hy] at hor hL
  rw [hz] at hor hL ⊢
  have HL := Lib.hid hL
  clear hf hL hy hz hx
  by_cases h1 : (97 : Int) ≤ y
  · by_cases h2 : (y : Int) ≤ 122
    · by_cases h3 : (65 : Int) ≤ z
      · have e : isL x = true := by rw [HL.out]; simp; omega
        rw [e]
        clear e
        go_enter Tryz.func65, Tryz.ntmps65
        go_wp2_with fail
        go_ret
        exact ⟨rfl, rfl⟩
      · have e : isL x = false := by rw [HL.out]; simp; omega
        rw [e]
        have h3' : decide ((65 : Int) ≤ z) = false := decide_eq_false h3
        clear e h3
        go_enter Tryz.func65, Tryz.ntmps65
        go_wp2_with fail
        go_ret
        exact ⟨rfl, rfl⟩
    · have e : isL x = false := by rw [HL.out]; simp; omega
      rw [e]
      have h2' : decide ((y : Int) ≤ 122) = false := decide_eq_false h2
      clear e h2
      go_enter Tryz.func65, Tryz.ntmps65
      go_wp2_with fail
      go_ret
      exact ⟨rfl, rfl⟩
  · have e : isL x = false := by rw [HL.out]; simp; omega
    rw [e]
    have h1' : decide ((97 : Int) ≤ y) = false := decide_eq_false h1
    clear e h1
    go_enter Tryz.func65, Tryz.ntmps65
    go_wp2_with fail
    go_ret
    exact ⟨rfl, rfl⟩

end Go.Proofs.YtckkmdigmecagaaGreatDoor.Fl

/-
  Package field: small letters; blanks, in plain words.
-/
namespace Go.Proofs.YtckkmdigmecagaaGreatDoor.Fl
open Go.RowKit

def lowB (x : UInt8) : UInt8 := if isL x then UInt8.ofNat (x.toNat ||| 32) else x
def smallL (s : List UInt8) : List UInt8 := s.map lowB
theorem low_fin : ∀ c : Fin 256, (c.1 ||| 32) < 256 ∧ (65 ≤ c.1 → c.1 ≤ 90 → c.1 ||| 32 = c.1 + 32) ∧ (97 ≤ c.1 → c.1 ≤ 122 → c.1 ||| 32 = c.1) := by decide +kernel
theorem low_yes {x : UInt8} (h : isL x = true) : Value.int .u8 (((x.toNat ||| 32 : Nat)) : Int) = b8 (lowB x) := by
  have h1 := (low_fin ⟨x.toNat, x.toNat_lt⟩).1
  dsimp only at h1
  unfold lowB
  rw [if_pos h, b8_ofNat, Nat.mod_eq_of_lt h1]
theorem low_no {x : UInt8} (h : isL x = false) : lowB x = x := by
  unfold lowB
  rw [if_neg (by rw [h]; decide)]
theorem set_mid (P R : List UInt8) (x y : UInt8) : (P ++ x :: R).set P.length y = P ++ y :: R := by
  rw [List.set_append_right _ _ (Nat.le_refl _), Nat.sub_self]
  rfl
theorem small_mid {s : List UInt8} {k : Nat} {x : UInt8} (h : s[k]? = some x) : smallL (s.take k) ++ s.drop k = smallL (s.take k) ++ x :: s.drop (k + 1) ∧ smallL (s.take (k + 1)) ++ s.drop (k + 1) = smallL (s.take k) ++ lowB x :: s.drop (k + 1) := by
  obtain ⟨hk, hx⟩ := List.getElem?_eq_some_iff.1 h
  refine ⟨by rw [List.drop_eq_getElem_cons hk, hx], ?_⟩
  unfold smallL
  rw [List.take_succ_eq_append_getElem hk, hx, List.map_append, List.append_assoc]
  rfl

set_option maxRecDepth 20000 in
set_option maxHeartbeats 4000000 in
theorem small_any (s : List UInt8) (hs : s.length ≤ 1073741824) (w : World) :
    Calls Tryz.prog 66 #[.string ⟨s.toArray⟩] w fun e w' => e = .returned (.string ⟨(smallL s).toArray⟩) ∧ Below w.heap.size w w' := by
  obtain ⟨n, hn⟩ : ∃ n, s.length = n := ⟨_, rfl⟩
  have HN := Lib.hid hn
  have hn1 : n ≤ 1073741824 := by omega
  clear hn hs
  go_enter Tryz.func66, Tryz.ntmps66
  go_wp2_with (refine wpList_s2b rfl _ rfl Tryz.underlying9 Tryz.underlying27 Tryz.underlying5 ⟨s.toArray⟩ rfl (by rw [size_mk, HN.out]; exact hn1) ?_; intro c1 w1 ho1 hb1; rw [size_mk, HN.out] at ho1 ⊢; generalize (some (⟨w.heap.size, 0, none⟩ : Addr)) = A1 at ho1 ⊢)
  go_loopw [10] (fun i wr => ∃ k : Nat, k ≤ n ∧ i = .int .i64 k ∧ Own wr w.heap.size 5 1 A1 n c1 ((smallL (s.take k) ++ s.drop k).map b8) ∧ Below w.heap.size w wr) (fun i _ => n - (intOf i).toNat)
  case atStart => exact ⟨0, by omega, rfl, by simpa [smallL] using ho1, hb1⟩
  case round =>
    obtain ⟨k, hk, rfl, ho, hb⟩ := hrel
    clear ho1 hb1
    by_cases hkn : k < n
    · have hx : s[k]? = some (s[k]'(by rw [HN.out]; exact hkn)) := List.getElem?_eq_getElem _
      generalize s[k]'(by rw [HN.out]; exact hkn) = x at hx
      obtain ⟨hm1, hm2⟩ := small_mid hx
      have hPl : (smallL (s.take k)).length = k := by unfold smallL; rw [List.length_map, List.length_take, HN.out]; omega
      have hcell := ho.rd.cell k (b8 x) (by
        rw [hm1, List.map_append, List.getElem?_append_right (by rw [List.length_map, hPl]; exact Nat.le_refl _), List.length_map, hPl, Nat.sub_self]
        rfl)
      have hidx := run_index_rd (P := Tryz.prog) (A := A1) (n := n) (c := c1) eb ho.rd.nil ho.rd.le k hkn
      rw [Nat.mul_one] at hidx
      have hle := ho.rd.le
      have hfr := ho.free (k := k) (by omega)
      have hst := ho.store (k := k) (by omega) (b8 (lowB x))
      have hbs := below_store hb ho (k := k) (by omega) (b8 (lowB x))
      have hst2 : Own (wr.setCell (at_ A1 k) (b8 (lowB x))) w.heap.size 5 1 A1 n c1 ((smallL (s.take (k + 1)) ++ s.drop (k + 1)).map b8) := by
        rw [hm2, ← set_mid _ _ x, hPl, List.map_set, ← hm1]
        exact hst
      have hkeep : lowB x = x → Own wr w.heap.size 5 1 A1 n c1 ((smallL (s.take (k + 1)) ++ s.drop (k + 1)).map b8) := fun h => by
        rw [hm2, h, ← hm1]
        exact ho
      have HL := Lib.hid (fun W => letter_any x W)
      have hor := or32 x.toNat x.toNat_lt
      have hk' : (k : Int) < n := by omega
      have HST := Lib.hid hst2
      have HBS := Lib.hid hbs
      have HKE := Lib.hid hkeep
      unfold b8 at hcell
      clear hx hm1 hm2 hPl hst hst2 hbs hkeep hkn
      by_cases hl : isL x = true
      · have HY := Lib.hid (low_yes hl)
        rw [hl] at HL
        clear hl
        go_wp2_with fail
        refine (HL.out _).mono ?_
        rintro e w2 ⟨rfl, rfl⟩
        go_wp2_with fail
        rw [HY.out]
        go_roundw
        case rel => exact ⟨k + 1, by omega, by go_num, HST.out, HBS.out⟩
        case measure => simp [intOf]; omega
      · have hl' : isL x = false := by simpa using hl
        have HO := Lib.hid (HKE.out (low_no hl'))
        rw [hl'] at HL
        clear hl hl'
        go_wp2_with fail
        refine (HL.out _).mono ?_
        rintro e w2 ⟨rfl, rfl⟩
        go_wp2_with fail
        go_roundw
        case rel => exact ⟨k + 1, by omega, by go_num, HO.out, hb⟩
        case measure => simp [intOf]; omega
    · obtain rfl : k = n := by omega
      have e : smallL (s.take k) ++ s.drop k = smallL s := by rw [List.take_of_length_le (by rw [HN.out]; exact Nat.le_refl _), List.drop_eq_nil_of_le (by rw [HN.out]; exact Nat.le_refl _), List.append_nil]
      rw [e] at ho
      have hs := str_rd ho.rd
      clear e hkn
      go_wp2_with fail
      go_ret
      exact ⟨rfl, hb⟩

/-! ### Blanks -/
def isB (x : UInt8) : Bool := blk2.contains x
theorem dw_all {p : UInt8 → Bool} : ∀ {l : List UInt8}, l.all p = true → l.dropWhile p = []
  | [], _ => rfl
  | x :: l, h => by
    rw [List.all_cons, Bool.and_eq_true] at h
    rw [List.dropWhile_cons_of_pos h.1]
    exact dw_all h.2
theorem dw_some {p : UInt8 → Bool} : ∀ {l : List UInt8}, l.all p = false → (l.dropWhile p).isEmpty = false
  | [], h => by simp at h
  | x :: l, h => by
    by_cases hx : p x = true
    · rw [List.dropWhile_cons_of_pos hx]
      rw [List.all_cons, hx, Bool.true_and] at h
      exact dw_some h
    · rw [List.dropWhile_cons_of_neg hx]
      rfl
theorem trimR_eq (l : List UInt8) : Lib.trimRightS l blk2 = (l.reverse.dropWhile isB).reverse := rfl
theorem trimR_cons (x : UInt8) (l : List UInt8) : Lib.trimRightS (x :: l) blk2 = if isB x && l.all isB then [] else x :: Lib.trimRightS l blk2 := by
  rw [trimR_eq, trimR_eq, List.reverse_cons, List.dropWhile_append]
  by_cases h : l.all isB = true
  · have hr : l.reverse.all isB = true := by rw [List.all_reverse]; exact h
    rw [dw_all hr, if_pos (by rfl)]
    by_cases hx : isB x = true
    · rw [if_pos (by rw [hx, h]; rfl), List.dropWhile_cons_of_pos hx]
      rfl
    · rw [if_neg (by simp [hx]), List.dropWhile_cons_of_neg hx]
      rfl
  · have h' : l.all isB = false := by simpa using h
    have hr : l.reverse.all isB = false := by rw [List.all_reverse]; exact h'
    rw [dw_some hr, if_neg (by decide), if_neg (by simp [h'])]
    simp
theorem all_dropWhile {l : List UInt8} (h : l.all isB = true) : l.dropWhile isB = [] := dw_all h
/-- From the left first, then from the right. -/
theorem trim_other : ∀ l : List UInt8, trimL l = Lib.trimRightS (l.dropWhile isB) blk2
  | [] => rfl
  | x :: l => by
    have ih := trim_other l
    unfold trimL Lib.trimS at ih ⊢
    rw [trimR_cons]
    by_cases hx : isB x = true
    · rw [List.dropWhile_cons_of_pos hx]
      by_cases h : l.all isB = true
      · rw [if_pos (by rw [hx, h]; rfl), all_dropWhile h]
        rfl
      · rw [if_neg (by simp [h]), ← ih]
        unfold Lib.trimLeftS
        exact List.dropWhile_cons_of_pos hx
    · rw [List.dropWhile_cons_of_neg hx, if_neg (by simp [hx]), trimR_cons, if_neg (by simp [hx])]
      unfold Lib.trimLeftS
      exact List.dropWhile_cons_of_neg hx

end Go.Proofs.YtckkmdigmecagaaGreatDoor.Fl

/-
  Names of 32 bytes (api.ID) as values, in blocks, held against each other.
-/
namespace Go.Proofs.YtckkmdigmecagaaGreatDoor
open Go.RowKit

theorem results_cell_tmp {P : Program} {fn : Func} {p q : Tmp} {ty : TypeId} (h : fn.results = #[.cell p ty, .tmp q]) (tmps : Array Value) (w : World) (g : Nat) (t : TypeId) (cs : Array Value) (fr : Nat × Nat) (d : TypeDesc)
    (hp : tmps.getD p undef = .pointer (some ⟨g, 0, none⟩)) (hg : w.heap[g]? = some (.cells cs t fr))
    (hu : P.underlying ty = some d) (hd : (match d with | .struct _ | .array _ _ => true | _ => false) = true) (hi : (P.info? ty).map (·.size) = some cs.size) (v : Value) (hv : tmps.getD q undef = v) :
    (results fn tmps).run P w = .ok (.tuple #[.agg cs, v]) w := by
  have hp' : tmps[p]?.getD undef = .pointer (some ⟨g, 0, none⟩) := by simpa using hp
  have hv' : tmps[q]?.getD undef = v := by simpa using hv
  simp [results, h, hp', hv', asAddr, run_loadVar_row w g t ty cs fr d hg hu hd hi]

/-- The cells of a name. -/
def idA (R : List UInt8) : Array Value := (R.map b8).toArray
/-- The zero name. -/
def zid : List UInt8 := List.replicate 32 0
theorem zid_len : zid.length = 32 := by simp [zid]
theorem idA_size {R : List UInt8} (h : R.length = 32) : (idA R).size = 32 := by simp [idA, h]
theorem idA_one {R : List UInt8} : ∀ v ∈ (idA R).toList, v.oneCell' = true := by
  intro v hv
  exact b8_one R v hv
theorem idA_same {R R2 : List UInt8} (h : R.length = 32) (h2 : R2.length = 32) : (idA R).size = (idA R2).size := (idA_size h).trans (idA_size h2).symm
section
variable {ops : Array Oper} {rest : List Oper} {o : Oper} {a : Act} {Q : Exit → Act → World → Prop} {w : World}
end

end Go.Proofs.YtckkmdigmecagaaGreatDoor

/-
  Package field: Line.
-/
namespace Go.Proofs.YtckkmdigmecagaaGreatDoor.Fl
open Go.RowKit

/-- A field as a value. -/
def fdA (a b : List UInt8) : Array Value := #[.string ⟨a.toArray⟩, .string ⟨b.toArray⟩]
theorem zero_fd : (Tryz.prog.info? 44).map (·.zero) = some (some (.agg (fdA [] []))) := by kernel_rfl
theorem size_fd0 : (Tryz.prog.info? 44).map (·.size) = some 2 := by kernel_rfl
theorem size_fd (a b : List UInt8) : (Tryz.prog.info? 44).map (·.size) = some (fdA a b).size := size_fd0
theorem fd_one (a b : List UInt8) : ∀ x ∈ (fdA a b).toList, x.oneCell' = true := by
  intro x hx
  simp [fdA] at hx
  rcases hx with rfl | rfl <;> rfl
/-- May a name have it? May a value? -/
def okN (x : UInt8) : Bool := isL x || (decide (48 ≤ x.toNat) && decide (x.toNat ≤ 57)) || decide (x.toNat = 45)
def okV (x : UInt8) : Bool := decide (x.toNat = 9) || (decide (32 ≤ x.toNat) && decide (x.toNat ≤ 126))
/-- A field that a line is: its name, its value, the error's number. -/
def lineR (s : List UInt8) : List UInt8 × List UInt8 × Int :=
  if (cut1 58 s).2.2 = true ∧ (cut1 58 s).1 ≠ [] ∧ (cut1 58 s).1.all okN = true ∧ (cut1 58 s).2.1.all okV = true then (smallL (cut1 58 s).1, trimL (cut1 58 s).2.1, 0) else ([], [], 4)
theorem line_bad {s : List UInt8} (h : ¬ ((cut1 58 s).2.2 = true ∧ (cut1 58 s).1 ≠ [] ∧ (cut1 58 s).1.all okN = true ∧ (cut1 58 s).2.1.all okV = true)) : lineR s = ([], [], 4) := if_neg h
def Lined (w : World) (s : List UInt8) (e : Ending) (w' : World) : Prop := e = .returned (.tuple #[.agg (fdA (lineR s).1 (lineR s).2.1), .int .i64 (lineR s).2.2]) ∧ Below w.heap.size w w'
theorem all_at {p : UInt8 → Bool} {l : List UInt8} {k : Nat} {x : UInt8} (h : l[k]? = some x) (hx : p x = false) : l.all p ≠ true := by
  intro ha
  have := List.all_eq_true.1 ha x (List.mem_of_getElem? h)
  rw [hx] at this
  cases this
theorem all_of {p : UInt8 → Bool} {l : List UInt8} (h : ∀ (k : Nat) x, l[k]? = some x → p x = true) : l.all p = true := by
  rw [List.all_eq_true]
  intro x hx
  obtain ⟨k, hk⟩ := List.mem_iff_getElem?.1 hx
  exact h k x hk
/-- The cases of a name's byte, and of a value's. -/
theorem name_case (x : UInt8) : (isL x = true ∧ okN x = true) ∨ (isL x = false ∧ ((((x.toNat : Int) < 48 ∧ (x.toNat : Int) ≠ 45) ∧ okN x = false) ∨ ((x.toNat : Int) = 45 ∧ okN x = true) ∨ ((48 ≤ (x.toNat : Int) ∧ (x.toNat : Int) ≤ 57) ∧ okN x = true) ∨ ((48 ≤ (x.toNat : Int) ∧ 57 < (x.toNat : Int)) ∧ okN x = false))) := by
  unfold okN
  cases hl : isL x
  · refine .inr ⟨rfl, ?_⟩
    by_cases h1 : (x.toNat : Int) = 45
    · exact .inr (.inl ⟨h1, by simp; omega⟩)
    · by_cases h2 : (x.toNat : Int) < 48
      · exact .inl ⟨⟨h2, h1⟩, by simp; omega⟩
      · by_cases h3 : (x.toNat : Int) ≤ 57
        · exact .inr (.inr (.inl ⟨⟨by omega, h3⟩, by simp; omega⟩))
        · exact .inr (.inr (.inr ⟨⟨by omega, by omega⟩, by simp; omega⟩))
  · exact .inl ⟨rfl, rfl⟩
theorem value_case (x : UInt8) : ((x.toNat : Int) = 9 ∧ okV x = true) ∨ (((x.toNat : Int) ≠ 9 ∧ (x.toNat : Int) < 32) ∧ okV x = false) ∨ ((32 ≤ (x.toNat : Int) ∧ (x.toNat : Int) ≤ 126) ∧ okV x = true) ∨ ((32 ≤ (x.toNat : Int) ∧ 126 < (x.toNat : Int)) ∧ okV x = false) := by
  unfold okV
  by_cases h1 : (x.toNat : Int) = 9
  · exact .inl ⟨h1, by simp; omega⟩
  · by_cases h2 : (x.toNat : Int) < 32
    · exact .inr (.inl ⟨⟨h1, h2⟩, by simp; omega⟩)
    · by_cases h3 : (x.toNat : Int) ≤ 126
      · exact .inr (.inr (.inl ⟨⟨by omega, h3⟩, by simp; omega⟩))
      · exact .inr (.inr (.inr ⟨⟨by omega, by omega⟩, by simp; omega⟩))
theorem emp_no {l : List UInt8} (h : l ≠ []) : l.isEmpty = false := by
  cases l with
  | nil => exact absurd rfl h
  | cons x l => rfl

set_option maxRecDepth 20000 in
set_option maxHeartbeats 8000000 in
theorem Line_any (s : List UInt8) (hs : s.length ≤ 1048576) (w : World) (hm : Mx w) : Calls Tryz.prog 52 #[.string ⟨s.toArray⟩] w (Lined w s) := by
  have hBAD : lineR s = ([], [], 4) → ∀ w', Below w.heap.size w w' → Lined w s (.returned (.tuple #[.agg (fdA [] []), .int .i64 4])) w' := fun h w' hb => by
    unfold Lined
    rw [h]
    exact ⟨rfl, hb⟩
  have HBAD := Lib.hid hBAD
  have HC := Lib.hid (fun W (hb : Below w.heap.size w W) => Cut_any 58 s (by omega) W (hm.below hb))
  have hle := cut1_le 58 s
  have hlb := line_bad (s := s)
  have hlg : (cut1 58 s).2.2 = true → (cut1 58 s).1 ≠ [] → (cut1 58 s).1.all okN = true → (cut1 58 s).2.1.all okV = true → lineR s = (smallL (cut1 58 s).1, trimL (cut1 58 s).2.1, 0) := fun a b c d => if_pos ⟨a, b, c, d⟩
  obtain ⟨X, hX⟩ : ∃ X, cut1 58 s = X := ⟨_, rfl⟩
  rw [hX] at HC hle hlb hlg
  obtain ⟨a, b, f⟩ := X
  dsimp only at HC hle hlb hlg
  have HLB := Lib.hid hlb
  have HLG := Lib.hid hlg
  have hla : a.length ≤ 1048576 := by omega
  have hlb' : b.length ≤ 1048576 := by omega
  have HSA := Lib.hid (fun W => small_any a (by omega) W)
  have HTB := Lib.hid (fun W => Trim_any b (by omega) W)
  clear hBAD hle hX hm hlb hlg
  by_cases hf : f = true
  · subst hf
    by_cases ha : a = []
    · subst ha
      have HE := Lib.hid (HBAD.out (HLB.out (fun h => h.2.1 rfl)))
      go_enter Tryz.func52, Tryz.ntmps52
      go_wp2_with (refine wpList_alloc_zero rfl _ rfl (fdA [] []) zero_fd ?_; intro w1 hg1 hb1 hz1)
      refine (HC.out _ hb1).mono ?_
      rintro e w2 ⟨rfl, hb2⟩
      have hB2 := hb1.trans (hb2.mono hb1.size)
      have hG2 := (hb2.block _ (by omega)).trans hg1
      clear hz1 hg1
      go_wp2_with (refine wpList_store_all rfl _ _ _ rfl w.heap.size rfl _ (fdA [] []) (fdA [] []) rfl hG2 (size_fd _ _) rfl (fd_one _ _) ?_; intro w7 hg7 hgr7 hz7)
      refine bodyPost_ret (results_cell_tmp rfl _ _ w.heap.size _ _ _ _ rfl hg7 Tryz.underlying44 rfl (size_fd _ _) _ rfl) rfl ?_
      exact HE.out w7 (hB2.grown hgr7 hB2.size (fun g hg => by obtain rfl := Option.some.inj hg; exact Nat.le_refl _))
    · have hae := emp_no ha
      have HNE := Lib.hid ha
      clear ha
      go_enter Tryz.func52, Tryz.ntmps52
      go_wp2_with (refine wpList_alloc_zero rfl _ rfl (fdA [] []) zero_fd ?_; intro w1 hg1 hb1 hz1)
      refine (HC.out _ hb1).mono ?_
      rintro e w2 ⟨rfl, hb2⟩
      have hB2 := hb1.trans (hb2.mono hb1.size)
      have hG2 := (hb2.block _ (by omega)).trans hg1
      have hlt2 : w.heap.size < w2.heap.size := by have := hb2.size; omega
      have HG2 := Lib.hid hG2
      clear hz1 hg1 hb1 hb2 hG2
      go_wp2_with fail
      go_loop [26] (fun i => ∃ k : Nat, k ≤ a.length ∧ i = .int .i64 k ∧ Hid (∀ (j : Nat) x, j < k → a[j]? = some x → okN x = true)) (fun i => a.length - (intOf i).toNat)
      case atStart => exact ⟨0, by omega, rfl, (show ∀ (j : Nat) x, j < 0 → _ from fun j x h => absurd h (by omega))⟩
      case round =>
        obtain ⟨k, hk, rfl, hH⟩ := hrel
        by_cases hka : k < a.length
        · have hx : a[k]? = some (a[k]'hka) := List.getElem?_eq_getElem hka
          generalize a[k]'hka = x at hx
          have hi := run_str_at (P := Tryz.prog) Tryz.underlying9 a k x hx (kl := .i64)
          have hk' : (k : Int) < a.length := by omega
          have HL := Lib.hid (fun W => letter_any x W)
          have hnext : okN x = true → ∀ j y, j < k + 1 → a[j]? = some y → okN y = true := fun h j y hj hy => by
            by_cases hjk : j < k
            · exact hH.out j y hjk hy
            · obtain rfl : j = k := by omega
              rw [hx] at hy
              rw [← Option.some.inj hy]
              exact h
          have hbad : okN x = false → lineR s = ([], [], 4) := fun h => HLB.out (fun h2 => all_at hx h h2.2.2.1)
          have HN := Lib.hid hnext
          have HB := Lib.hid hbad
          have hxb : (x.toNat : Int) ≤ 255 := by have := x.toNat_lt; omega
          clear hx hnext hbad hka hH
          rcases name_case x with ⟨hl, hok⟩ | ⟨hl, hc⟩
          · rw [hl] at HL
            have HN2 := Lib.hid (HN.out hok)
            clear hl hok
            go_wp2_with fail
            refine (HL.out _).mono ?_
            rintro e w3 ⟨rfl, rfl⟩
            go_wp2_with fail
            go_round
            case rel => exact ⟨k + 1, by omega, by go_num, HN2.out⟩
            case measure => simp [intOf]; omega
          · rw [hl] at HL
            clear hl
            rcases hc with ⟨⟨c1, c2⟩, hok⟩ | ⟨c1, hok⟩ | ⟨⟨c1, c2⟩, hok⟩ | ⟨⟨c1, c2⟩, hok⟩
            · have c2' : ((x.toNat : Int) != 45) = true := by simpa using c2
              have HE := Lib.hid (HBAD.out (HB.out hok))
              have hG := HG2.out
              clear c2 hok
              go_wp2_with fail
              refine (HL.out _).mono ?_
              rintro e w3 ⟨rfl, rfl⟩
              go_wp2_with (refine wpList_store_all rfl _ _ _ rfl w.heap.size rfl _ (fdA [] []) (fdA [] []) rfl hG (size_fd _ _) rfl (fd_one _ _) ?_; intro w7 hg7 hgr7 hz7)
              refine bodyPost_ret (results_cell_tmp rfl _ _ w.heap.size _ _ _ _ rfl hg7 Tryz.underlying44 rfl (size_fd _ _) _ rfl) rfl ?_
              exact HE.out w7 (hB2.grown hgr7 hB2.size (fun g hg => by obtain rfl := Option.some.inj hg; exact Nat.le_refl _))
            · have HN2 := Lib.hid (HN.out hok)
              have c1' : ((x.toNat : Int) != 45) = false := by simpa using c1
              have c2' : (x.toNat : Int) < 48 := by omega
              clear hok c1
              go_wp2_with fail
              refine (HL.out _).mono ?_
              rintro e w3 ⟨rfl, rfl⟩
              go_wp2_with fail
              go_round
              case rel => exact ⟨k + 1, by omega, by go_num, HN2.out⟩
              case measure => simp [intOf]; omega
            · have HN2 := Lib.hid (HN.out hok)
              clear hok
              go_wp2_with fail
              refine (HL.out _).mono ?_
              rintro e w3 ⟨rfl, rfl⟩
              go_wp2_with fail
              go_round
              case rel => exact ⟨k + 1, by omega, by go_num, HN2.out⟩
              case measure => simp [intOf]; omega
            · have c3' : ((x.toNat : Int) != 45) = true := by simp; omega
              have HE := Lib.hid (HBAD.out (HB.out hok))
              have hG := HG2.out
              clear hok
              go_wp2_with fail
              refine (HL.out _).mono ?_
              rintro e w3 ⟨rfl, rfl⟩
              go_wp2_with (refine wpList_store_all rfl _ _ _ rfl w.heap.size rfl _ (fdA [] []) (fdA [] []) rfl hG (size_fd _ _) rfl (fd_one _ _) ?_; intro w7 hg7 hgr7 hz7)
              refine bodyPost_ret (results_cell_tmp rfl _ _ w.heap.size _ _ _ _ rfl hg7 Tryz.underlying44 rfl (size_fd _ _) _ rfl) rfl ?_
              exact HE.out w7 (hB2.grown hgr7 hB2.size (fun g hg => by obtain rfl := Option.some.inj hg; exact Nat.le_refl _))
        · obtain rfl : k = a.length := by omega
          have hall : a.all okN = true := all_of (fun j x hx => hH.out j x (List.getElem?_eq_some_iff.1 hx).1 hx)
          have HALL := Lib.hid hall
          clear hka hall hH
          go_wp2_with fail
          go_loop [51] (fun i => ∃ k : Nat, k ≤ b.length ∧ i = .int .i64 k ∧ Hid (∀ (j : Nat) x, j < k → b[j]? = some x → okV x = true)) (fun i => b.length - (intOf i).toNat)
          case atStart => exact ⟨0, by omega, rfl, (show ∀ (j : Nat) x, j < 0 → _ from fun j x h => absurd h (by omega))⟩
          case round =>
            obtain ⟨k, hk, rfl, hH⟩ := hrel
            by_cases hkb : k < b.length
            · have hx : b[k]? = some (b[k]'hkb) := List.getElem?_eq_getElem hkb
              generalize b[k]'hkb = x at hx
              have hi := run_str_at (P := Tryz.prog) Tryz.underlying9 b k x hx (kl := .i64)
              have hk' : (k : Int) < b.length := by omega
              have hnext : okV x = true → ∀ j y, j < k + 1 → b[j]? = some y → okV y = true := fun h j y hj hy => by
                by_cases hjk : j < k
                · exact hH.out j y hjk hy
                · obtain rfl : j = k := by omega
                  rw [hx] at hy
                  rw [← Option.some.inj hy]
                  exact h
              have hbad : okV x = false → lineR s = ([], [], 4) := fun h => HLB.out (fun h2 => all_at hx h h2.2.2.2)
              have HN := Lib.hid hnext
              have HB := Lib.hid hbad
              have hxb : (x.toNat : Int) ≤ 255 := by have := x.toNat_lt; omega
              clear hx hnext hbad hkb hH
              rcases value_case x with ⟨c1, hok⟩ | ⟨⟨c1, c2⟩, hok⟩ | ⟨⟨c1, c2⟩, hok⟩ | ⟨⟨c1, c2⟩, hok⟩
              · have HN2 := Lib.hid (HN.out hok)
                have c1' : ((x.toNat : Int) != 9) = false := by simpa using c1
                clear hok c1
                go_wp2_with fail
                go_round
                case rel => exact ⟨k + 1, by omega, by go_num, HN2.out⟩
                case measure => simp [intOf]; omega
              · have c1' : ((x.toNat : Int) != 9) = true := by simpa using c1
                have HE := Lib.hid (HBAD.out (HB.out hok))
                have hG := HG2.out
                clear hok c1
                go_wp2_with (refine wpList_store_all rfl _ _ _ rfl w.heap.size rfl _ (fdA [] []) (fdA [] []) rfl hG (size_fd _ _) rfl (fd_one _ _) ?_; intro w7 hg7 hgr7 hz7)
                refine bodyPost_ret (results_cell_tmp rfl _ _ w.heap.size _ _ _ _ rfl hg7 Tryz.underlying44 rfl (size_fd _ _) _ rfl) rfl ?_
                exact HE.out w7 (hB2.grown hgr7 hB2.size (fun g hg => by obtain rfl := Option.some.inj hg; exact Nat.le_refl _))
              · have HN2 := Lib.hid (HN.out hok)
                have c3' : ((x.toNat : Int) != 9) = true := by simp; omega
                clear hok
                go_wp2_with fail
                go_round
                case rel => exact ⟨k + 1, by omega, by go_num, HN2.out⟩
                case measure => simp [intOf]; omega
              · have c1' : ((x.toNat : Int) != 9) = true := by simp; omega
                have HE := Lib.hid (HBAD.out (HB.out hok))
                have hG := HG2.out
                clear hok
                go_wp2_with (refine wpList_store_all rfl _ _ _ rfl w.heap.size rfl _ (fdA [] []) (fdA [] []) rfl hG (size_fd _ _) rfl (fd_one _ _) ?_; intro w7 hg7 hgr7 hz7)
                refine bodyPost_ret (results_cell_tmp rfl _ _ w.heap.size _ _ _ _ rfl hg7 Tryz.underlying44 rfl (size_fd _ _) _ rfl) rfl ?_
                exact HE.out w7 (hB2.grown hgr7 hB2.size (fun g hg => by obtain rfl := Option.some.inj hg; exact Nat.le_refl _))
            · obtain rfl : k = b.length := by omega
              have hall : b.all okV = true := all_of (fun j x hx => hH.out j x (List.getElem?_eq_some_iff.1 hx).1 hx)
              have hgood := HLG.out trivial HNE.out HALL.out hall
              have HGD := Lib.hid hgood
              clear hall hgood hH hkb
              go_wp2_with fail
              refine (HSA.out _).mono ?_
              rintro e w3 ⟨rfl, hb3⟩
              have hB3 := hB2.trans (hb3.mono hB2.size)
              go_wp2_with fail
              refine (HTB.out _).mono ?_
              rintro e w4 ⟨rfl, hb4⟩
              have hB4 := hB3.trans (hb4.mono hB3.size)
              have hG4 := (hb4.block _ (by have := hb3.size; omega)).trans ((hb3.block _ hlt2).trans HG2.out)
              clear hb3 hb4
              go_wp2_with (refine wpList_store_all rfl _ _ _ rfl w.heap.size rfl _ (fdA [] []) (fdA (smallL a) (trimL b)) rfl hG4 (size_fd _ _) rfl (fd_one _ _) ?_; intro w7 hg7 hgr7 hz7)
              refine bodyPost_ret (results_cell_tmp rfl _ _ w.heap.size _ _ _ _ rfl hg7 Tryz.underlying44 rfl (size_fd _ _) _ rfl) rfl ?_
              unfold Lined
              rw [HGD.out]
              exact ⟨rfl, hB4.grown hgr7 hB4.size (fun g hg => by obtain rfl := Option.some.inj hg; exact Nat.le_refl _)⟩
  · have hf' : f = false := by simpa using hf
    subst hf'
    have HE := Lib.hid (HBAD.out (HLB.out (fun h => by cases h.1)))
    clear hf
    go_enter Tryz.func52, Tryz.ntmps52
    go_wp2_with (refine wpList_alloc_zero rfl _ rfl (fdA [] []) zero_fd ?_; intro w1 hg1 hb1 hz1)
    refine (HC.out _ hb1).mono ?_
    rintro e w2 ⟨rfl, hb2⟩
    have hB2 := hb1.trans (hb2.mono hb1.size)
    have hG2 := (hb2.block _ (by omega)).trans hg1
    clear hz1 hg1
    go_wp2_with (refine wpList_store_all rfl _ _ _ rfl w.heap.size rfl _ (fdA [] []) (fdA [] []) rfl hG2 (size_fd _ _) rfl (fd_one _ _) ?_; intro w7 hg7 hgr7 hz7)
    refine bodyPost_ret (results_cell_tmp rfl _ _ w.heap.size _ _ _ _ rfl hg7 Tryz.underlying44 rfl (size_fd _ _) _ rfl) rfl ?_
    exact HE.out w7 (hB2.grown hgr7 hB2.size (fun g hg => by obtain rfl := Option.some.inj hg; exact Nat.le_refl _))

end Go.Proofs.YtckkmdigmecagaaGreatDoor.Fl

/-
  Package field: Words.
-/
namespace Go.Proofs.YtckkmdigmecagaaGreatDoor.Fl
open Go.RowKit

def strV (l : List UInt8) : Value := .string ⟨l.toArray⟩
theorem strV_one (l : List (List UInt8)) : ∀ u ∈ l.map strV, u.oneCell' = true := by
  intro u hu
  obtain ⟨_, _, rfl⟩ := List.mem_map.1 hu
  rfl
theorem es : ElemT Tryz.prog 45 9 (.string ByteArray.empty) 1 16 := ElemT.of Tryz.underlying45 (by kernel_rfl) rfl (by omega)
/-- The words that pieces say. -/
def wordsF : List (List UInt8) → List (List UInt8)
  | [] => []
  | p :: ps => if trimL p = [] then wordsF ps else smallL (trimL p) :: wordsF ps
theorem wordsF_app : ∀ a b : List (List UInt8), wordsF (a ++ b) = wordsF a ++ wordsF b
  | [], b => rfl
  | p :: a, b => by
    rw [List.cons_append, wordsF, wordsF, wordsF_app a b]
    split <;> rfl
theorem trimR_le (l : List UInt8) : (Lib.trimRightS l blk2).length ≤ l.length := by
  rw [trimR_eq, List.length_reverse]
  have := (List.dropWhile_suffix (l := l.reverse) isB).length_le
  simpa using this
theorem trimL_le (l : List UInt8) : (trimL l).length ≤ l.length := by
  have h1 := (List.dropWhile_suffix (l := Lib.trimRightS l blk2) isB).length_le
  have h2 := trimR_le l
  have e : trimL l = (Lib.trimRightS l blk2).dropWhile isB := rfl
  rw [e]
  omega
theorem split1_le (c : UInt8) : ∀ l, (split1 c l).length ≤ l.length + 1 ∧ ∀ p ∈ split1 c l, p.length ≤ l.length
  | [] => ⟨by simp [split1], fun p hp => by simp [split1] at hp; simp [hp]⟩
  | x :: l => by
    obtain ⟨h1, h2⟩ := split1_le c l
    rw [split1]
    split
    · refine ⟨by simpa using h1, fun p hp => ?_⟩
      rcases List.mem_cons.1 hp with rfl | hp
      · simp
      · have := h2 p hp
        simp
        omega
    · split
      · rename_i q ps hq
        rw [hq] at h1 h2
        refine ⟨by simp at h1 ⊢; omega, fun p hp => ?_⟩
        rcases List.mem_cons.1 hp with rfl | hp
        · have := h2 q (by simp)
          simpa using this
        · have := h2 p (by simp [hp])
          simp
          omega
      · refine ⟨by simp, fun p hp => ?_⟩
        obtain rfl : p = [x] := by simpa using hp
        simp
theorem wordsF_len : ∀ ps, (wordsF ps).length ≤ ps.length
  | [] => Nat.le_refl _
  | p :: ps => by
    have := wordsF_len ps
    rw [wordsF]
    split <;> (simp; omega)

set_option maxRecDepth 20000 in
set_option maxHeartbeats 8000000 in
theorem Words_any (s : List UInt8) (hs : s.length ≤ 1048576) (w : World) (hm : Mx w) : Calls Tryz.prog 62 #[.string ⟨s.toArray⟩] w fun e w' => ∃ A n c, e = .returned (.slice A n c) ∧ Own w' w.heap.size 9 1 A n c ((wordsF (split1 44 s)).map strV) ∧ Below w.heap.size w w' := by
  have HSP := Lib.hid (Split_any 44 s (by omega) w hm)
  obtain ⟨hpl, hpe⟩ := split1_le 44 s
  obtain ⟨P, hP⟩ : ∃ P, split1 44 s = P := ⟨_, rfl⟩
  rw [hP] at HSP hpl hpe ⊢
  obtain ⟨N, hN⟩ : ∃ N, P.length = N := ⟨_, rfl⟩
  rw [hN] at HSP hpl
  have HN := Lib.hid hN
  have hN1 : N ≤ 1048577 := by omega
  have HPE := Lib.hid (fun p hp => (Nat.le_trans (hpe p hp) hs : p.length ≤ 1048576))
  clear hP hN hm hpe hpl hs
  go_enter Tryz.func62, Tryz.ntmps62
  go_wp2_with fail
  refine HSP.out.mono ?_
  rintro e w1 ⟨rfl, hw1⟩
  have hrd : Rd w1 1 (some ⟨w.heap.size, 0, none⟩) N N (P.map strV) := by
    rw [hw1]
    exact Rd.lit w _ _ N (by rw [List.length_map, HN.out]) (by unfold maxLen; omega)
  have hb1 : Below w.heap.size w w1 := by rw [hw1]; exact (Below.refl _ _).alloc (Nat.le_refl _) _
  clear hw1
  obtain ⟨A1, hA1⟩ : ∃ A1, (some ⟨w.heap.size, 0, none⟩ : Option Addr) = A1 := ⟨_, rfl⟩
  rw [hA1] at hrd ⊢
  have hs1 := hb1.size
  clear hA1 HSP
  go_wp2_with fail
  go_loopw [3, 9] (fun l i wr => ∃ (k : Nat) (A : Option Addr) (n c : Nat), k ≤ N ∧ l = .slice A n c ∧ i = .int .i64 k ∧ Own wr w1.heap.size 9 1 A n c ((wordsF (P.take k)).map strV) ∧ n ≤ k ∧ Below w1.heap.size w1 wr) (fun _ i _ => N - (intOf i).toNat)
  case atStart => exact ⟨0, none, 0, 0, by omega, rfl, rfl, Own.nil_ _ _ _ _, by omega, Below.refl _ _⟩
  case round =>
    obtain ⟨k, A, n, c, hk, rfl, rfl, ho, hn, hb⟩ := hrel
    by_cases hkN : k < N
    · have hx : P[k]? = some (P[k]'(by rw [HN.out]; exact hkN)) := List.getElem?_eq_getElem _
      generalize P[k]'(by rw [HN.out]; exact hkN) = p at hx
      have hidx := run_index_rd (P := Tryz.prog) (A := A1) (n := N) (c := N) es hrd.nil hrd.le k hkN
      rw [Nat.mul_one] at hidx
      have hcell := (hrd.below hb).cell k (strV p) (by rw [List.getElem?_map, hx]; rfl)
      have hpl := HPE.out p (List.mem_of_getElem? hx)
      have htl := trimL_le p
      have HT := Lib.hid (fun W => Trim_any p (by omega) W)
      obtain ⟨q, hq⟩ : ∃ q, trimL p = q := ⟨_, rfl⟩
      rw [hq] at HT htl
      have hnext : wordsF (P.take (k + 1)) = wordsF (P.take k) ++ if q = [] then [] else [smallL q] := by
        obtain ⟨hk2, hx2⟩ := List.getElem?_eq_some_iff.1 hx
        rw [List.take_succ_eq_append_getElem hk2, wordsF_app, hx2, wordsF, hq]
        split <;> rfl
      have HNX := Lib.hid hnext
      have hk' : (k : Int) < N := by omega
      have hs1r := hb.size
      unfold strV at hcell
      clear hx hkN hq hnext
      by_cases hqe : q = []
      · have HNX2 : Hid (wordsF (P.take (k + 1)) = wordsF (P.take k)) := by
          show _ = _
          rw [HNX.out, if_pos hqe, List.append_nil]
        subst hqe
        clear HNX
        go_wp2_with fail
        refine (HT.out _).mono ?_
        rintro e w2 ⟨rfl, hb2⟩
        have hb12 := hb.trans (hb2.mono hb.size)
        have ho2 := ho.below hb2
        rw [← HNX2.out] at ho2
        clear hb2
        go_wp2_with fail
        go_roundw
        case rel => exact ⟨k + 1, A, n, c, by omega, rfl, by go_num, ho2, by omega, hb12⟩
        case measure => simp [intOf]; omega
      · have HNX2 : Hid (wordsF (P.take (k + 1)) = wordsF (P.take k) ++ [smallL q]) := by
          show _ = _
          rw [HNX.out, if_neg hqe]
        have hqi : q.isEmpty = false := by
          cases q with
          | nil => exact absurd rfl hqe
          | cons x l => rfl
        have HS := Lib.hid (fun W => small_any q (by omega) W)
        clear HNX hqe
        go_wp2_with fail
        refine (HT.out _).mono ?_
        rintro e w2 ⟨rfl, hb2⟩
        have hb12 := hb.trans (hb2.mono hb.size)
        have ho2 := ho.below hb2
        clear hb2
        go_wp2_with fail
        refine (HS.out _).mono ?_
        rintro e w3 ⟨rfl, hb3⟩
        have hb13 := hb12.trans (hb3.mono hb12.size)
        have ho3 := ho2.below hb3
        clear hb3 hcell
        go_wp2_with (at_builtin; refine wpList_app rfl _ _ rfl es (ho3.alloc _) rfl (Rd.lit _ [_] _ 1 rfl (by unfold maxLen; omega)) rfl (by simp [Value.oneCell']) (by omega) (by unfold maxLen; omega) (by have := hb13.size; simp; omega) ?_; intro A4 c4 w4 ho4 hg4 hq4; have hb4 := below_app hb13 (Nat.le_refl _) ho3 hg4)
        have ho5 : Own w4 w1.heap.size 9 1 A4 (n + 1) c4 ((wordsF (P.take (k + 1))).map strV) := by
          rw [HNX2.out, List.map_append]
          exact ho4
        go_roundw
        case rel => exact ⟨k + 1, A4, n + 1, c4, by omega, rfl, by go_num, ho5, by omega, hb4⟩
        case measure => simp [intOf]; omega
    · obtain rfl : k = N := by omega
      rw [List.take_of_length_le (by rw [HN.out]; exact Nat.le_refl _)] at ho
      clear hkN
      go_wp2_with fail
      go_ret
      exact ⟨A, n, c, rfl, ho.mono hs1, hb1.trans (hb.mono hs1)⟩

end Go.Proofs.YtckkmdigmecagaaGreatDoor.Fl

/-
  How the arguments of a law are opened: integers within their kind's bounds, a slice of bytes as a list of bytes.
-/
namespace Go.Proofs.YtckkmdigmecagaaGreatDoor
open Go.ChangeShapes Go.WideShapes Go.ChangeAt Go.RowKit

theorem wfb_u64 {a : Int} (h : (Lit.int .u64 a).wf = true) : 0 ≤ a ∧ a ≤ 18446744073709551615 := by
  simp [Lit.wf, IntKind.min, IntKind.max, IntKind.signed, IntKind.bits] at h
  omega
theorem wfb_i64 {a : Int} (h : (Lit.int .i64 a).wf = true) : -9223372036854775808 ≤ a ∧ a ≤ 9223372036854775807 := by
  simp [Lit.wf, IntKind.min, IntKind.max, IntKind.signed, IntKind.bits] at h
  omega
theorem wfb_u8 {a : Int} (h : (Lit.int .u8 a).wf = true) : 0 ≤ a ∧ a ≤ 255 := by
  simp [Lit.wf, IntKind.min, IntKind.max, IntKind.signed, IntKind.bits] at h
  omega

theorem own_knob : ownKnob Tryz.prog.godebug = none := by kernel_rfl
theorem laid_out : laidOutB Tryz.prog = true := by kernel_rfl

/-- The numbers of a slice of integers that came in. -/
theorem ints_of {H : Type} {enc : TypeId × Value → H} {w : World} {t e : TypeId} {k : IntKind} {a : Option Addr} {len cap : Nat} {d : DataW H} {p : List MemPlace}
    (ht : Tryz.prog.underlying t = some (.slice e)) (he : Tryz.prog.underlying e = some (.int k)) (hc : Tryz.prog.cellsOf e = 1) (h : DataW.Trod enc Tryz.prog w 0 (fun _ => true) true t (.slice a len cap) d p) :
    ∃ zs : List Int, (a = none ∧ len = 0 ∧ cap = 0 ∧ zs = []) ∨ ∃ x, a = some x ∧ len ≤ cap ∧ cap ≤ maxLen ∧ zs.length = cap ∧ (∀ i, i < zs.length → w.cell? (x.add i) = some (.int k (zs.getD i 0))) ∧ ∀ n ∈ zs, (Lit.int k n).wf = true := by
  obtain ⟨fuel, hf⟩ := h
  rcases open_ints ht he hc hf with ⟨hcs, _⟩ | ⟨x, l, c, zs, hcs, _, hl, hm, hz, _, hcell, hwz⟩
  · simp [Value.cells] at hcs
    obtain ⟨rfl, rfl, rfl⟩ := hcs
    exact ⟨[], .inl ⟨rfl, rfl, rfl, rfl⟩⟩
  · simp [Value.cells] at hcs
    obtain ⟨rfl, rfl, rfl⟩ := hcs
    exact ⟨zs, .inr ⟨_, rfl, hl, hm, by simpa using hz, hcell, hwz⟩⟩

/-- A slice of bytes that came in. -/
theorem rd_bytes {w : World} {a : Option Addr} {len cap : Nat} {zs : List Int}
    (h : (a = none ∧ len = 0 ∧ cap = 0 ∧ zs = []) ∨ ∃ x, a = some x ∧ len ≤ cap ∧ cap ≤ maxLen ∧ zs.length = cap ∧ (∀ i, i < zs.length → w.cell? (x.add i) = some (.int .u8 (zs.getD i 0))) ∧ ∀ n ∈ zs, (Lit.int .u8 n).wf = true) :
    ∃ l : List UInt8, Rd w 1 a len cap (l.map b8) := by
  rcases h with ⟨rfl, rfl, rfl, rfl⟩ | ⟨x, rfl, hl, hm, hz, hcell, hwz⟩
  · exact ⟨[], Rd.nil_ w 1⟩
  · refine ⟨(zs.take len).map fun n => UInt8.ofNat n.toNat, ⟨by simp; omega, hl, hm, (fun h => by cases h), fun j u hu => ?_⟩⟩
    rw [List.getElem?_map, List.getElem?_map, List.getElem?_take] at hu
    split at hu
    · have hjz : j < zs.length := by omega
      rw [List.getElem?_eq_getElem hjz] at hu
      simp only [Option.map_some, Option.some.injEq] at hu
      subst hu
      have hb := wfb_u8 (hwz zs[j] (List.getElem_mem hjz))
      have hc := hcell j hjz
      rw [at_some, hc, b8_ofNat]
      simp only [List.getD, List.getElem?_eq_getElem hjz, Option.getD_some]
      congr 2
      omega
    · cases hu

end Go.Proofs.YtckkmdigmecagaaGreatDoor

/-
  How a slice of slices of bytes is opened.
-/
namespace Go.Proofs.YtckkmdigmecagaaGreatDoor
open Go.ChangeShapes Go.WideShapes Go.ChangeAt Go.RowKit Go.Deep

structure Row where
  A : Option Addr
  n : Nat
  c : Nat
  l : List UInt8
def Row.val (r : Row) : Value := .slice r.A r.n r.c
/-- A slice that reads as these rows, each of which reads as its bytes. -/
structure Rows2 (w : World) (A : Option Addr) (n c : Nat) (ll : List Row) : Prop where
  rd : Rd w 1 A n c (ll.map Row.val)
  each : ∀ r ∈ ll, Rd w 1 r.A r.n r.c (r.l.map b8)

theorem choose_list {α : Type} {Q : Nat → α → Prop} : ∀ (n : Nat), (∀ i, i < n → ∃ r, Q i r) → ∃ ll : List α, ll.length = n ∧ ∀ (i : Nat) r, ll[i]? = some r → Q i r
  | 0, _ => ⟨[], rfl, fun i r h => by simp at h⟩
  | n + 1, h => by
    obtain ⟨ll, hl, hq⟩ := choose_list n fun i hi => h i (by omega)
    obtain ⟨r, hr⟩ := h n (by omega)
    refine ⟨ll ++ [r], by simp [hl], fun i r' hi => ?_⟩
    by_cases hin : i < n
    · rw [List.getElem?_append_left (by omega)] at hi
      exact hq i r' hi
    · rw [List.getElem?_append_right (by omega)] at hi
      by_cases hi0 : i - ll.length = 0
      · have e : i = n := by omega
        subst e
        rw [hi0] at hi
        simp at hi
        subst hi
        exact hr
      · have : 0 < i - ll.length := by omega
        rw [List.getElem?_eq_none (by simp; omega)] at hi
        cases hi

theorem row_of {H : Type} {enc : TypeId × Value → H} {w : World} {e u : TypeId} {fuel : Nat} {cs : List Value} {x : DataW H × List MemPlace}
    (he : Tryz.prog.underlying e = some (.slice u)) (hu : Tryz.prog.underlying u = some (.int .u8)) (hc2 : Tryz.prog.cellsOf u = 1) (h : DataW.trod enc Tryz.prog w 0 (fun _ => true) true fuel e cs = some x) :
    ∃ r : Row, cs = [r.val] ∧ Rd w 1 r.A r.n r.c (r.l.map b8) := by
  rcases open_ints he hu hc2 h with ⟨hcs, _⟩ | ⟨a, l, c, zs, hcs, _, hl, hm, hz, _, hcell, hwz⟩
  · exact ⟨⟨none, 0, 0, []⟩, hcs, Rd.nil_ w 1⟩
  · obtain ⟨bs, hb⟩ := rd_bytes (w := w) (a := some a) (len := l) (cap := c) (zs := zs) (.inr ⟨a, rfl, hl, hm, by simpa using hz, hcell, hwz⟩)
    exact ⟨⟨some a, l, c, bs⟩, hcs, hb⟩

/-- A slice of slices of bytes that came in. -/
theorem rd_rows {H : Type} {enc : TypeId × Value → H} {w : World} {t e u : TypeId} {a : Option Addr} {len cap : Nat} {d : DataW H} {p : List MemPlace}
    (ht : Tryz.prog.underlying t = some (.slice e)) (he : Tryz.prog.underlying e = some (.slice u)) (hu : Tryz.prog.underlying u = some (.int .u8)) (hc1 : Tryz.prog.cellsOf e = 1) (hc2 : Tryz.prog.cellsOf u = 1)
    (h : DataW.Trod enc Tryz.prog w 0 (fun _ => true) true t (.slice a len cap) d p) : ∃ ll : List Row, Rows2 w a len cap ll := by
  obtain ⟨fuel, hf⟩ := h
  rcases open_slice ht hf with ⟨hcs, _⟩ | ⟨x, l, c, m, n, D, Pl, hcs, _, hl, hm, hmm, _, hel⟩
  · simp [Value.cells] at hcs
    obtain ⟨rfl, rfl, rfl⟩ := hcs
    exact ⟨[], Rd.nil_ w 1, fun r hr => by cases hr⟩
  · simp [Value.cells] at hcs
    obtain ⟨rfl, rfl, rfl⟩ := hcs
    obtain ⟨ll, hll, hq⟩ := choose_list (Q := fun i (r : Row) => w.cell? (at_ (some x) i) = some r.val ∧ Rd w 1 r.A r.n r.c (r.l.map b8)) len fun i hi => by
      obtain ⟨cs', hc, htr⟩ := hel i (by simp at hmm; omega)
      obtain ⟨r, rfl, hr⟩ := row_of he hu hc2 htr
      rw [hc1] at hc
      obtain ⟨_, _, hat⟩ := World.cells?_some hc
      have h0 := hat 0 (by omega)
      refine ⟨r, ?_, hr⟩
      rw [at_some]
      simpa [Addr.add] using h0
    refine ⟨ll, ⟨by simp [hll], hl, hm, (fun h => by cases h), fun j v hv => ?_⟩, fun r hr => ?_⟩
    · rw [List.getElem?_map] at hv
      cases hj : ll[j]? with
      | none => simp [hj] at hv
      | some r =>
        simp [hj] at hv
        subst hv
        exact (hq j r hj).1
    · obtain ⟨i, hi⟩ := List.getElem?_of_mem hr
      exact (hq i r hi).2

end Go.Proofs.YtckkmdigmecagaaGreatDoor

/-
  Slices of fields: read, opened.
-/
namespace Go.Proofs.YtckkmdigmecagaaGreatDoor.Fl
open Go.ChangeShapes Go.WideShapes Go.ChangeAt Go.RowKit Go.Deep

abbrev Fd := List UInt8 × List UInt8
def fdL : List Fd → List Value
  | [] => []
  | f :: fs => strV f.1 :: strV f.2 :: fdL fs
theorem fdL_len : ∀ fs, (fdL fs).length = fs.length * 2
  | [] => rfl
  | f :: fs => by
    have := fdL_len fs
    simp only [fdL, List.length_cons, this]
    omega
theorem fdL_at : ∀ (fs : List Fd) (k : Nat) (f : Fd), fs[k]? = some f → (fdL fs)[k * 2]? = some (strV f.1) ∧ (fdL fs)[k * 2 + 1]? = some (strV f.2)
  | [], k, f, h => by simp at h
  | g :: fs, 0, f, h => by
    obtain rfl : g = f := by simpa using h
    exact ⟨rfl, rfl⟩
  | g :: fs, k + 1, f, h => by
    have := fdL_at fs k f (by simpa using h)
    rw [show (k + 1) * 2 = k * 2 + 1 + 1 by omega]
    exact this
/-- A slice of fields. -/
def Fds (w : World) (A : Option Addr) (n c : Nat) (fs : List Fd) : Prop := Rd w 2 A n c (fdL fs)
theorem ef : ElemT Tryz.prog 40 44 (.agg (fdA [] [])) 2 32 := ElemT.of Tryz.underlying40 (by kernel_rfl) rfl (by omega)
section
variable {w w' : World} {A : Option Addr} {n c : Nat} {fs : List Fd}
theorem Fds.len (h : Fds w A n c fs) : fs.length = n := by
  have := Rd.len h
  rw [fdL_len] at this
  omega
theorem Fds.below (h : Fds w A n c fs) (hb : Below w.heap.size w w') : Fds w' A n c fs := Rd.below h hb
theorem Fds.name (h : Fds w A n c fs) {k : Nat} {f : Fd} (hx : fs[k]? = some f) : w.cell? (at_ A (k * 2)) = some (strV f.1) := Rd.cell h _ _ (fdL_at fs k f hx).1
theorem Fds.value (h : Fds w A n c fs) {k : Nat} {f : Fd} (hx : fs[k]? = some f) : w.cell? (at_ A (k * 2 + 1)) = some (strV f.2) := Rd.cell h _ _ (fdL_at fs k f hx).2
theorem at_add2 (A : Option Addr) (m j : Nat) : (at_ A m).add j = at_ A (m + j) := by
  unfold at_
  exact add_of_add _ _ _
theorem Fds.load (h : Fds w A n c fs) {k : Nat} {f : Fd} (hx : fs[k]? = some f) : (loadVar 44 (at_ A (k * 2))).run Tryz.prog w = .ok (.agg (fdA f.1 f.2)) w := by
  have hl := run_loadCells_list (P := Tryz.prog) w (at_ A (k * 2)) [strV f.1, strV f.2] (fun j v hv => by
    rw [at_add2]
    match j, hv with
    | 0, hv => obtain rfl := Option.some.inj hv; exact h.name hx
    | 1, hv => obtain rfl := Option.some.inj hv; exact h.value hx)
  have e : [strV f.1, strV f.2].length = 2 := rfl
  rw [e] at hl
  simp [loadVar, isAgg, run_underlying Tryz.underlying44, sizeOf_run size_fd0, hl, fdA, strV]
theorem Fds.idx (h : Fds w A n c fs) {k : Nat} (hk : k < n) (W : World) : (Instr.indexAt 40 (.slice A n c) (.int .i64 (k : Int))).run Tryz.prog W = .ok (.pointer (some (at_ A (k * 2)))) W :=
  run_index_rd ef (Rd.nil h) (Rd.le h) k hk W
end
theorem cells_str : Tryz.prog.cellsOf 9 = 1 := by kernel_rfl
theorem cells_fd : Tryz.prog.cellsOf 44 = 2 := by kernel_rfl
theorem rd_fields {H : Type} {enc : TypeId × Value → H} {w : World} {a : Option Addr} {len cap : Nat} {d : DataW H} {p : List MemPlace}
    (h : DataW.Trod enc Tryz.prog w 0 (fun _ => true) true 40 (.slice a len cap) d p) : ∃ fs : List Fd, Fds w a len cap fs := by
  obtain ⟨fuel, hf⟩ := h
  rcases open_slice_pairs Tryz.underlying40 Tryz.underlying44 cells_fd rfl rfl cells_str cells_str hf with ⟨hcs, _⟩ | ⟨x, l, c, m, n, V0, V1, D0, D1, P0, P1, hcs, _, hl, hm, hmm, _, hel⟩
  · simp [Value.cells] at hcs
    obtain ⟨rfl, rfl, rfl⟩ := hcs
    exact ⟨[], Rd.nil_ w 2⟩
  · simp [Value.cells] at hcs
    obtain ⟨rfl, rfl, rfl⟩ := hcs
    obtain ⟨ll, hll, hq⟩ := choose_list (Q := fun i (y : Fd) => w.cell? (at_ (some x) (i * 2)) = some (strV y.1) ∧ w.cell? (at_ (some x) (i * 2 + 1)) = some (strV y.2)) len fun i hi => by
      obtain ⟨h0, h1, t0, t1⟩ := hel i (by simp at hmm; omega)
      obtain ⟨s0, e0, _, _⟩ := DataW.trod_string Tryz.underlying9 t0
      obtain ⟨s1, e1, _, _⟩ := DataW.trod_string Tryz.underlying9 t1
      have e0' : V0 i = .string s0 := by simpa using e0
      have e1' : V1 i = .string s1 := by simpa using e1
      rw [e0'] at h0
      rw [e1'] at h1
      refine ⟨(s0.data.toList, s1.data.toList), ?_, ?_⟩
      · rw [at_some, h0]
        cases s0
        simp [strV]
      · rw [at_some, h1]
        cases s1
        simp [strV]
    refine ⟨ll, ⟨by rw [fdL_len, hll], hl, hm, (fun h => by cases h), fun j v hv => ?_⟩⟩
    have hjl : j < ll.length * 2 := by rw [← fdL_len]; exact (List.getElem?_eq_some_iff.1 hv).1
    have hi : j / 2 < ll.length := by omega
    have hx : ll[j / 2]? = some ll[j / 2] := List.getElem?_eq_getElem hi
    obtain ⟨a0, a1⟩ := fdL_at ll _ _ hx
    obtain ⟨b0, b1⟩ := hq _ _ hx
    by_cases hj : j % 2 = 0
    · have e : j = j / 2 * 2 := by omega
      rw [e] at hv ⊢
      rw [a0] at hv
      obtain rfl := Option.some.inj hv
      exact b0
    · have e : j = j / 2 * 2 + 1 := by omega
      rw [e] at hv ⊢
      rw [a1] at hv
      obtain rfl := Option.some.inj hv
      exact b1

end Go.Proofs.YtckkmdigmecagaaGreatDoor.Fl

/-
  A region that draws its order and holds reads beside calls that make memory: it is walked once, in an order of the prover's choice, where each read is as it would be in every world that the region can come to (S), and each call, when it is taken, is the only operation that may come up. Behind a call S may be made narrower.
-/
namespace Go.Proofs.YtckkmdigmecagaaGreatDoor
open Go.RowKit

section
variable {P : Program} {ops : Array Oper} {Q : Exit → Act → World → Prop} {md : Region.Mode}

/-- An operation that is carried out by itself. -/
def solo (o : Oper) : Bool := match o.op with
  | .call { callee := .builtin .len, .. } | .call { callee := .builtin .cap, .. } | .call { callee := .builtin .min, .. } | .call { callee := .builtin .max, .. } => false
  | .call _ | .alloc _ | .box .. | .buildSlice .. | .makeSlice .. | .makeMap .. | .store .. | .mapUpdate .. => true
  | _ => false

/-- The walk, the operations by their numbers. -/
def wpMix (P : Program) (ops : Array Oper) (Q : Exit → Act → World → Prop) : List Nat → (World → Prop) → Act → World → Prop
  | [], _, a, w => Q .normal a w
  | i :: r, S, a, w =>
    match ops[i]? with
    | none => False
    | some o =>
      if Region.wanted o (yielded ops a.tmps) = true then
        (solo o = false ∧ ∃ v, (∀ w', S w' → (execOp a.eval o).run P w' = .ok (.value v) w') ∧ wpMix P ops Q r S (a.put o.dst v) w) ∨
        (solo o = true ∧ o.wp P a w (fun a' w' => S w' ∧ ∃ S' : World → Prop, (∀ x, S' x → S x) ∧ S' w' ∧ wpMix P ops Q r S' a' w') Q)
      else wpMix P ops Q r S (a.put o.dst undef) w

/-- Each read may come up and is apart from what may come ahead of it; each call is the only one that may come up. -/
def mixB (md : Region.Mode) (ops : Array Oper) : List Nat → Array Bool → Bool
  | [], listed => (Region.ready md ops listed).isEmpty
  | i :: r, listed =>
    (match ops[i]? with
     | none => false
     | some o => if solo o then Region.ready md ops listed == [i] else (Region.ready md ops listed).contains i && Region.free md ops listed i) &&
    mixB md ops r (listed.setIfInBounds i true)

theorem anyH_weaken {S S' : World → Prop} (hs : ∀ x, S' x → S x) : ∀ (fuel : Nat) (listed : Array Bool) (a : Act) (w : World), wpAnyH P md ops Q S' fuel listed a w → wpAnyH P md ops Q S fuel listed a w
  | 0, _, _, _, h => h
  | fuel + 1, _, _, _, h => ⟨h.1, fun i hi => wpOp_mono (fun a' w' h' => ⟨hs _ h'.1, anyH_weaken hs fuel _ a' w' h'.2⟩) (h.2 i hi)⟩

theorem mix_anyH (hns : Region.noSelect ops = true) (hQ : ∀ c a d v w, Q (.panic c) (Act.put a d v) w → Q (.panic c) a w) :
    ∀ (l : List Nat) (listed : Array Bool) (S : World → Prop) (a : Act) (w : World), mixB md ops l listed = true → S w → wpMix P ops Q l S a w → wpAnyH P md ops Q S l.length listed a w
  | [], listed, S, a, w, hB, _, h => ⟨by simpa [mixB] using hB, h⟩
  | i :: r, listed, S, a, w, hB, hS, h => by
    rw [mixB, Bool.and_eq_true] at hB
    obtain ⟨h1, h2⟩ := hB
    rw [wpMix] at h
    cases ho : ops[i]? with
    | none => simp [ho] at h1
    | some o =>
      simp only [ho] at h h1
      by_cases hw : Region.wanted o (yielded ops a.tmps) = true
      · rw [if_pos hw] at h
        rcases h with ⟨hso, v, hv, hr⟩ | ⟨hso, hwp⟩
        · simp only [hso, Bool.false_eq_true, if_false, Bool.and_eq_true] at h1
          exact wpAnyH_first ho (Region.noSelect_spec hns) (fun c a w => hQ c a o.dst v w) r.length listed a w (Region.free_spec ho h1.2) (by simpa using h1.1) (.inl ⟨hw, hv⟩) hS
            (mix_anyH hns hQ r _ S _ w h2 hS hr)
        · simp only [hso, if_true, beq_iff_eq] at h1
          refine ⟨fun h0 => (by rw [h1] at h0; cases h0), fun j hj => ?_⟩
          rw [h1] at hj
          obtain rfl : j = i := by simpa using hj
          unfold wpOp
          simp only [ho, hw, if_true]
          refine .inl (Oper.wp_mono (fun a' w' ⟨hs1, S', hs2, hs3, hm⟩ => ⟨hs1, anyH_weaken hs2 _ _ _ _ (mix_anyH hns hQ r _ S' a' w' h2 hs3 hm)⟩) hwp)
      · rw [if_neg hw] at h
        have hr := mix_anyH hns hQ r _ S _ w h2 hS h
        by_cases hso : solo o = true
        · simp only [hso, if_true, beq_iff_eq] at h1
          refine ⟨fun h0 => (by rw [h1] at h0; cases h0), fun j hj => ?_⟩
          rw [h1] at hj
          obtain rfl : j = i := by simpa using hj
          unfold wpOp
          simp only [ho, hw, Bool.false_eq_true, if_false]
          exact ⟨hS, hr⟩
        · simp only [hso, Bool.false_eq_true, if_false, Bool.and_eq_true] at h1
          exact wpAnyH_first ho (Region.noSelect_spec hns) (fun c a w => hQ c a o.dst undef w) r.length listed a w (Region.free_spec ho h1.2) (by simpa using h1.1) (.inr ⟨by simpa using hw, rfl⟩) hS hr

theorem wp_region_mix {id : Nat} {a : Act} {w : World} (l : List Nat) (S : World → Prop) (hm : P.follows .mixedOrders = true) (hns : Region.noSelect ops = true) (hlen : l.length = ops.size) (hB : mixB .any ops l (Array.replicate ops.size false) = true)
    (hQ : ∀ c a d v w, Q (.panic c) (Act.put a (some d) v) w → Q (.panic c) a w) (hS : S w.drew) (h : wpMix P ops Q l S a w.drew) : (Code.region id ops true).wp P Q a w :=
  wp_region_held (S := S) hm (by
    have := mix_anyH hns (fun c a d v w hp => match d, hp with | none, hp => hp | some d, hp => hQ c a d v w hp) l (Array.replicate ops.size false) S a w.drew hB hS h
    rw [hlen] at this
    exact this)

/-- What runs to a value, if to anything. -/
def IsVal (s : Sem Next) : Prop := ∀ (P : Program) (w w' : World) (r : Next), s.run P w = .ok r w' → ∃ v, r = .value v
theorem isVal_of (s : Sem Value) : IsVal (do pure (.value (← s))) := by
  intro P w w' r h
  rw [Sem.run_bind] at h
  cases hs : s.run P w with
  | ok v w1 =>
    rw [hs] at h
    simp only [Result.andThen_ok, Sem.run_pure, Result.ok.injEq] at h
    exact ⟨v, h.1.symm⟩
  | halt x w1 =>
    rw [hs] at h
    cases h
/-- An operation that only reads. -/
def reads (o : Oper) : Bool := match o.op with
  | .move _ | .assign _ | .pick .. | .load .. | .binOp .. | .unOp .. | .convert .. | .field .. | .fieldAddr .. | .index .. | .indexAddr .. | .slice .. | .extract .. | .makeInterface .. | .build .. | .lookup .. | .sliceToArrayPointer .. => true
  | .call { callee := .builtin .len, .. } | .call { callee := .builtin .cap, .. } | .call { callee := .builtin .min, .. } | .call { callee := .builtin .max, .. } => true
  | _ => false
theorem isVal_pure (v : Value) : IsVal (pure (.value v)) := by
  intro P w w' r h
  simp only [Sem.run_pure, Result.ok.injEq] at h
  exact ⟨v, h.1.symm⟩
theorem isVal_reads (ρ : Operand → Value) (o : Oper) (h : reads o = true) : IsVal (execOp ρ o) := by
  obtain ⟨dst, op, type, pos, after, guard⟩ := o
  cases op with
  | move x => exact isVal_pure _
  | assign x => exact isVal_pure _
  | pick c a b =>
    intro P w w' r h
    have e : execOp ρ { dst, op := .pick c a b, type, pos, after, guard } = (do pure (.value (if ← asBool (ρ c) then ρ a else ρ b))) := rfl
    rw [e, Sem.run_bind] at h
    cases hs : (asBool (ρ c)).run P w with
    | ok v w1 =>
      rw [hs] at h
      simp only [Result.andThen_ok, Sem.run_pure, Result.ok.injEq] at h
      exact ⟨_, h.1.symm⟩
    | halt x w1 =>
      rw [hs] at h
      cases h
  | load t a => exact isVal_of _
  | binOp a b c d e => exact isVal_of _
  | unOp a b c => exact isVal_of _
  | convert a b c => exact isVal_of _
  | field a b c => exact isVal_of _
  | fieldAddr a b c => exact isVal_of _
  | index a b c => exact isVal_of _
  | indexAddr a b c => exact isVal_of _
  | slice a b c d e => exact isVal_of _
  | extract a b => exact isVal_of _
  | makeInterface a b => exact isVal_of _
  | build a b => exact isVal_of _
  | lookup a b c d => exact isVal_of _
  | sliceToArrayPointer a b => exact isVal_of _
  | call c =>
    obtain ⟨callee, args, ats⟩ := c
    cases callee with
    | builtin b =>
      rw [BigFrame.execOp_builtin]
      cases b <;> first
        | (exfalso; simp [reads] at h; done)
        | (rw [BigFrame.builtin_len]; exact isVal_of _)
        | (rw [BigFrame.builtin_cap]; exact isVal_of _)
        | (rw [BigFrame.builtin_min]; exact isVal_of _)
        | (rw [BigFrame.builtin_max]; exact isVal_of _)
    | value f => simp [reads] at h
    | invoke r m => simp [reads] at h
  | _ => simp [reads] at h
theorem reads_solo {o : Oper} (h : reads o = true) : solo o = false := by
  obtain ⟨dst, op, type, pos, after, guard⟩ := o
  unfold reads at h
  unfold solo
  split at h <;> first | rfl | simp_all

/-- One read, by the quiet walk's own step. -/
theorem mix_read {i : Nat} {o : Oper} {r : List Nat} {S : World → Prop} {a : Act} {w : World} (ho : ops[i]? = some o) (hrd : reads o = true)
    (h : wpQuiet P ops S (fun a' => wpMix P ops Q r S a' w) [o] a) : wpMix P ops Q (i :: r) S a w := by
  rw [wpMix]
  simp only [ho]
  unfold wpQuiet at h
  split
  · rename_i hw
    rw [if_pos hw] at h
    obtain ⟨v, hv, hn⟩ := h
    refine .inl ⟨reads_solo hrd, v, fun w' hS => ?_, hn⟩
    have h1 := hv w' hS
    unfold Oper.quietAt at h1
    have h2 := isVal_reads a.eval o hrd P w'
    generalize (execOp a.eval o).run P w' = res at *
    cases res with
    | ok n x =>
      obtain ⟨u, rfl⟩ := h2 x n rfl
      simp only [Oper.quietUpon] at h1
      obtain ⟨rfl, rfl⟩ := h1
      rfl
    | halt y x => simp only [Oper.quietUpon] at h1
  · rename_i hw
    rw [if_neg hw] at h
    exact h
/-- A load, a build, whose run is known in each such world. -/
theorem mix_load {i : Nat} {o : Oper} {r : List Nat} {S : World → Prop} {a : Act} {w : World} (ho : ops[i]? = some o) {ty : TypeId} {x : Operand} (hop : o.op = .load ty x) (hw : Region.wanted o (yielded ops a.tmps) = true) (ad : Addr) (hx : a.eval x = .pointer (some ad)) (v : Value) (hrun : ∀ w', S w' → (loadVar ty ad).run P w' = .ok v w')
    (h : wpMix P ops Q r S (a.put o.dst v) w) : wpMix P ops Q (i :: r) S a w := by
  rw [wpMix]
  simp only [ho, hw, if_true]
  refine .inl ⟨by unfold solo; rw [hop], v, fun w' hS => ?_, h⟩
  unfold execOp
  simp only [hop, hx, Instr.loadAt, Instr.sureAddr, Sem.run_bind, Sem.run_pure, Result.andThen_ok, hrun w' hS]
theorem mix_build {i : Nat} {o : Oper} {r : List Nat} {S : World → Prop} {a : Act} {w : World} (ho : ops[i]? = some o) {ty : TypeId} {parts : Array (Nat × Operand)} (hop : o.op = .build ty parts) (hw : Region.wanted o (yielded ops a.tmps) = true) (vs : Array (Nat × Value)) (hx : (parts.map fun (i, x) => (i, a.eval x)) = vs) (v : Value) (hrun : ∀ w', S w' → (Instr.build ty vs).run P w' = .ok v w')
    (h : wpMix P ops Q r S (a.put o.dst v) w) : wpMix P ops Q (i :: r) S a w := by
  rw [wpMix]
  simp only [ho, hw, if_true]
  refine .inl ⟨by unfold solo; rw [hop], v, fun w' hS => ?_, h⟩
  unfold execOp
  simp only [hop, hx, Sem.run_bind, Sem.run_pure, Result.andThen_ok, hrun w' hS]
theorem mix_arr {i : Nat} {o : Oper} {r : List Nat} {S : World → Prop} {a : Act} {w : World} (ho : ops[i]? = some o) {ty : TypeId} {x : Operand} (hop : o.op = .sliceToArrayPointer ty x) (hw : Region.wanted o (yielded ops a.tmps) = true) (u : Value) (hx : a.eval x = u) (v : Value) (hrun : ∀ w', S w' → (Instr.arrayAt ty u).run P w' = .ok v w')
    (h : wpMix P ops Q r S (a.put o.dst v) w) : wpMix P ops Q (i :: r) S a w := by
  rw [wpMix]
  simp only [ho, hw, if_true]
  refine .inl ⟨by unfold solo; rw [hop], v, fun w' hS => ?_, h⟩
  unfold execOp
  simp only [hop, hx, Sem.run_bind, Sem.run_pure, Result.andThen_ok, hrun w' hS]
theorem mix_done {S : World → Prop} {a : Act} {w : World} (h : Q .normal a w) : wpMix P ops Q [] S a w := h
/-- One call that is not reached. -/
theorem mix_skip {i : Nat} {o : Oper} {r : List Nat} {S : World → Prop} {a : Act} {w : World} (ho : ops[i]? = some o) (hw : Region.wanted o (yielded ops a.tmps) = false) (h : wpMix P ops Q r S (a.put o.dst undef) w) : wpMix P ops Q (i :: r) S a w := by
  rw [wpMix]
  simp only [ho, hw, Bool.false_eq_true, if_false]
  exact h
/-- One call. -/
theorem mix_call {i : Nat} {o : Oper} {r : List Nat} {S : World → Prop} {a : Act} {w : World} (ho : ops[i]? = some o) (hso : solo o = true) (hw : Region.wanted o (yielded ops a.tmps) = true)
    (h : ∀ K : Act → World → Prop, (∀ (S' : World → Prop) a' w', S w' → (∀ x, S' x → S x) → S' w' → wpMix P ops Q r S' a' w' → K a' w') → o.wp P a w K Q) : wpMix P ops Q (i :: r) S a w := by
  rw [wpMix]
  simp only [ho, hw, if_true]
  exact .inr ⟨hso, h _ (fun S' a' w' h1 h2 h3 h4 => ⟨h1, S', h2, h3, h4⟩)⟩
end

/-! ### The worlds in which all that stood stands -/
structure Later (W : World) where
  at' : World
  below : Below W.heap.size W at'
instance (W : World) : Nonempty (Later W) := ⟨⟨W, Below.refl _ _⟩⟩

section
variable {P : Program} {ops : Array Oper} {Q : Exit → Act → World → Prop} {md : Region.Mode}

theorem wp_region_mixb {id : Nat} {a : Act} {w : World} (l : List Nat) (hm : P.follows .mixedOrders = true) (hns : Region.noSelect ops = true) (hlen : l.length = ops.size) (hB : mixB .any ops l (Array.replicate ops.size false) = true)
    (hQ : ∀ c a d v w, Q (.panic c) (Act.put a (some d) v) w → Q (.panic c) a w) (h : wpMix P ops Q l (fun x => ∃ b : Later w, x = b.at') a w.drew) : (Code.region id ops true).wp P Q a w :=
  wp_region_mix l _ hm hns hlen hB hQ ⟨⟨w.drew, (Below.refl _ _).drew⟩, rfl⟩ h

/-- One call; what stood when it came back stands from then on. -/
theorem mixb_call {i : Nat} {o : Oper} {r : List Nat} {W : World} {a : Act} {w : World} (ho : ops[i]? = some o) (hso : solo o = true) (hw : Region.wanted o (yielded ops a.tmps) = true)
    (h : ∀ K : Act → World → Prop, (∀ a' w', Below W.heap.size W w' → wpMix P ops Q r (fun x => ∃ b : Later w', x = b.at') a' w' → K a' w') → o.wp P a w K Q) : wpMix P ops Q (i :: r) (fun x => ∃ b : Later W, x = b.at') a w :=
  mix_call ho hso hw fun K hK => h K fun a' w' hb hn =>
    hK (fun x => ∃ b : Later w', x = b.at') a' w' ⟨⟨w', hb⟩, rfl⟩ (fun x ⟨b, e⟩ => ⟨⟨x, by subst e; exact hb.trans (b.below.mono hb.size)⟩, rfl⟩) ⟨⟨w', Below.refl _ _⟩, rfl⟩ hn
/-- One call; the facts of the beginning stay in use. -/
theorem mixb_call_as {i : Nat} {o : Oper} {r : List Nat} {W : World} {a : Act} {w : World} (ho : ops[i]? = some o) (hso : solo o = true) (hw : Region.wanted o (yielded ops a.tmps) = true)
    (h : ∀ K : Act → World → Prop, (∀ a' w', Below W.heap.size W w' → wpMix P ops Q r (fun x => ∃ b : Later W, x = b.at') a' w' → K a' w') → o.wp P a w K Q) : wpMix P ops Q (i :: r) (fun x => ∃ b : Later W, x = b.at') a w :=
  mix_call ho hso hw fun K hK => h K fun a' w' hb hn => hK _ a' w' ⟨⟨w', hb⟩, rfl⟩ (fun _ h => h) ⟨⟨w', hb⟩, rfl⟩ hn
end

end Go.Proofs.YtckkmdigmecagaaGreatDoor
