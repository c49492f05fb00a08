/-
  Items of a folder: as values, in blocks, in rows.
-/
import Derived.Test.YtgdbdhfomlkpdaaIdv
import Derived.Test.YtgdbdhfomlkpdaaLawA
namespace Go.Proofs.Ytgdbdhfomlkpdaa
open Go.RowKit

structure It where
  nm : ByteArray
  kd : Int
  id : List UInt8
  sz : Int
structure ItOk (x : It) : Prop where
  len : x.id.length = 32
  k0 : -9223372036854775808 ≤ x.kd
  k1 : x.kd ≤ 9223372036854775807
  s0 : -9223372036854775808 ≤ x.sz
  s1 : x.sz ≤ 9223372036854775807
  nm : x.nm.size ≤ maxLen
/-- An item's cells. -/
def itL (x : It) : List Value := .string x.nm :: .int .i64 x.kd :: (x.id.map b8 ++ [.int .i64 x.sz])
def itA (x : It) : Array Value := (itL x).toArray
/-- The zero item. -/
def itZ : It := ⟨⟨#[]⟩, 0, zid, 0⟩
theorem itZ_ok : ItOk itZ := ⟨zid_len, by decide, by decide, by decide, by decide, by decide⟩
section
variable {x y : It}
theorem itL_len (h : ItOk x) : (itL x).length = 35 := by simp [itL, h.len]
theorem itA_size (h : ItOk x) : (itA x).size = 35 := by simp [itA, itL_len h]
theorem itA_same (h : ItOk x) (h2 : ItOk y) : (itA x).size = (itA y).size := (itA_size h).trans (itA_size h2).symm
theorem itL_one : ∀ v ∈ itL x, v.oneCell' = true := by
  intro v hv
  simp only [itL, List.mem_cons, List.mem_append, List.not_mem_nil, or_false] at hv
  rcases hv with rfl | rfl | hv | rfl
  · rfl
  · rfl
  · exact b8_one x.id v hv
  · rfl
theorem itA_one : ∀ v ∈ (itA x).toList, v.oneCell' = true := itL_one
theorem itL_name : (itL x)[0]? = some (.string x.nm) := rfl
theorem itL_kind : (itL x)[1]? = some (.int .i64 x.kd) := rfl
theorem itL_size (h : ItOk x) : (itL x)[34]? = some (.int .i64 x.sz) := by
  simp only [itL, List.getElem?_cons_succ]
  rw [List.getElem?_append_right (by simp [h.len])]
  simp [h.len]
theorem itL_id {j : Nat} {u : Value} (hu : (x.id.map b8)[j]? = some u) : (itL x)[j + 2]? = some u := by
  simp only [itL, List.getElem?_cons_succ]
  rw [List.getElem?_append_left (List.getElem?_eq_some_iff.1 hu).1]
  exact hu
end
theorem zero_it : (Try.prog.info? 33).map (·.zero) = some (some (.agg (itA itZ))) := by kernel_rfl
theorem size_it0 : (Try.prog.info? 33).map (·.size) = some 35 := by kernel_rfl
theorem size_it {x : It} (h : ItOk x) : (Try.prog.info? 33).map (·.size) = some (itA x).size := by rw [itA_size h]; exact size_it0
theorem build_it0 (W : World) : (Instr.build 33 #[]).run Try.prog W = .ok (.agg (itA itZ)) W := by kernel_rfl

theorem heap_new (w : World) (o : Obj) : (w.alloc o).heap[w.heap.size]? = some o := by
  show (w.heap.push o)[w.heap.size]? = some o
  simp
theorem cell_of {w : World} {g i : Nat} {cs : Array Value} {t : TypeId} {fr : Nat × Nat} {v : Value} (h : w.heap[g]? = some (.cells cs t fr)) (hv : cs[i]? = some v) : w.cell? ⟨g, i, none⟩ = some v := by
  simp [World.cell?, h, hv]
theorem frozen_of {w : World} {g i : Nat} {cs : Array Value} {t : TypeId} (h : w.heap[g]? = some (.cells cs t (0, 0))) : w.frozen? ⟨g, i, none⟩ = false := by
  simp [World.frozen?, h]
theorem add0 (g j : Nat) : (⟨g, 0, none⟩ : Addr).add j = ⟨g, j, none⟩ := by unfold Addr.add; split <;> simp_all
theorem addk (g i j : Nat) : (⟨g, i, none⟩ : Addr).add j = ⟨g, i + j, none⟩ := by unfold Addr.add; split <;> simp_all

/-- Block g holds an item. -/
structure ItB (w : World) (g : Nat) (x : It) : Prop where
  ok : ItOk x
  obj : w.heap[g]? = some (.cells (itA x) 33 (0, 0))
section
variable {w w' : World} {g : Nat} {x : It}
theorem ItB.name (h : ItB w g x) : w.cell? ⟨g, 0, none⟩ = some (.string x.nm) := cell_of h.obj itL_name
theorem ItB.kind (h : ItB w g x) : w.cell? ⟨g, 1, none⟩ = some (.int .i64 x.kd) := cell_of h.obj itL_kind
theorem ItB.size (h : ItB w g x) : w.cell? ⟨g, 34, none⟩ = some (.int .i64 x.sz) := cell_of h.obj (by simp only [itA, List.getElem?_toArray]; exact itL_size h.ok)
theorem ItB.id (h : ItB w g x) : Rd w 1 (some ⟨g, 2, none⟩) 32 32 (x.id.map b8) :=
  ⟨by simp [h.ok.len], Nat.le_refl _, by decide, (fun e => by cases e), fun j u hu => by
    rw [at_some, addk, Nat.add_comm]
    exact cell_of h.obj (by simp only [itA, List.getElem?_toArray]; exact itL_id hu)⟩
theorem ItB.lt (h : ItB w g x) : g < w.heap.size := (Array.getElem?_eq_some_iff.1 h.obj).1
theorem ItB.below (h : ItB w g x) (hb : Below w.heap.size w w') : ItB w' g x := ⟨h.ok, (hb.block g h.lt).trans h.obj⟩
theorem ItB.keep (h : ItB w g x) (he : w'.heap[g]? = w.heap[g]?) : ItB w' g x := ⟨h.ok, he.trans h.obj⟩
end

/-! ### Rows of items -/
def itsL (l : List It) : List Value := l.flatMap itL
theorem its_len {l : List It} (h : ∀ x ∈ l, ItOk x) : (itsL l).length = l.length * 35 := by
  induction l with
  | nil => rfl
  | cons x l ih =>
    have h1 := itL_len (h x (by simp))
    have h2 := ih fun y hy => h y (by simp [hy])
    simp only [itsL, List.flatMap_cons, List.length_append, h1, List.length_cons] at h2 ⊢
    omega
theorem its_at {l : List It} (h : ∀ x ∈ l, ItOk x) : ∀ {k : Nat} {x : It}, l[k]? = some x → ∀ {j : Nat}, j < 35 → (itsL l)[k * 35 + j]? = (itL x)[j]? := by
  induction l with
  | nil => intro k x hx; simp at hx
  | cons y l ih =>
    intro k x hx j hj
    have h1 := itL_len (h y (by simp))
    simp only [itsL, List.flatMap_cons]
    cases k with
    | zero =>
      obtain rfl : y = x := by simpa using hx
      rw [Nat.zero_mul, Nat.zero_add, List.getElem?_append_left (by omega)]
    | succ k =>
      rw [List.getElem?_append_right (by omega), h1]
      have e : (k + 1) * 35 + j - 35 = k * 35 + j := by omega
      rw [e]
      exact ih (fun z hz => h z (by simp [hz])) (by simpa using hx) hj
theorem its_append (l m : List It) : itsL (l ++ m) = itsL l ++ itsL m := by simp [itsL]
theorem its_one (l : List It) : ∀ v ∈ itsL l, v.oneCell' = true := by
  intro v hv
  obtain ⟨x, _, hx⟩ := List.mem_flatMap.1 hv
  exact itL_one v hx
theorem ei : ElemT Try.prog 22 33 (.agg (itA itZ)) 35 64 := ElemT.of Try.underlying22 (by kernel_rfl) (by simp [Value.cells, itA_size itZ_ok]) (by omega)

/-- A slice of items. -/
structure Its (w : World) (A : Option Addr) (n c : Nat) (l : List It) : Prop where
  rd : Rd w 35 A n c (itsL l)
  ok : ∀ x ∈ l, ItOk x
section
variable {w w' : World} {A : Option Addr} {n c : Nat} {l : List It}
theorem Its.len (h : Its w A n c l) : l.length = n := by
  have := h.rd.len
  rw [its_len h.ok] at this
  omega
theorem Its.below (h : Its w A n c l) (hb : Below w.heap.size w w') : Its w' A n c l := ⟨h.rd.below hb, h.ok⟩
theorem Its.nil_ (w : World) : Its w none 0 0 [] := ⟨Rd.nil_ w 35, fun x hx => by simp at hx⟩
theorem Its.cells (h : Its w A n c l) {k : Nat} {x : It} (hx : l[k]? = some x) {j : Nat} {v : Value} (hv : (itL x)[j]? = some v) : w.cell? (at_ A (k * 35 + j)) = some v := by
  have ho := h.ok x (List.mem_of_getElem? hx)
  have hj : j < 35 := by rw [← itL_len ho]; exact (List.getElem?_eq_some_iff.1 hv).1
  exact h.rd.cell _ _ (by rw [its_at h.ok hx hj]; exact hv)
theorem Its.name (h : Its w A n c l) {k : Nat} {x : It} (hx : l[k]? = some x) : w.cell? (at_ A (k * 35)) = some (.string x.nm) := h.cells hx itL_name
theorem at_add (A : Option Addr) (m j : Nat) : (at_ A m).add j = at_ A (m + j) := by
  unfold at_
  exact add_of_add _ _ _
theorem Its.load (h : Its w A n c l) {k : Nat} {x : It} (hx : l[k]? = some x) : (loadVar 33 (at_ A (k * 35))).run Try.prog w = .ok (.agg (itA x)) w := by
  have ho := h.ok x (List.mem_of_getElem? hx)
  have hl := run_loadCells_list (P := Try.prog) w (at_ A (k * 35)) (itL x) (fun j v hv => by rw [at_add]; exact h.cells hx hv)
  rw [itL_len ho] at hl
  simp [loadVar, isAgg, run_underlying Try.underlying33, sizeOf_run size_it0, hl, itA]
theorem Its.at (h : Its w A n c l) (J : Int) (k : Nat) (hJ : J = k) (hk : k < n) :
    ∃ x, Hid (l[k]? = some x) ∧ ItOk x ∧ (∀ W, (Instr.indexAt 22 (.slice A n c) (.int .i64 J)).run Try.prog W = .ok (.pointer (some (at_ A (k * 35)))) W) := by
  subst hJ
  have hl := h.len
  have hkl : k < l.length := by omega
  exact ⟨l[k], List.getElem?_eq_getElem hkl, h.ok _ (List.getElem_mem hkl), fun W => run_index_rd ei h.rd.nil h.rd.le k hk W⟩
end

end Go.Proofs.Ytgdbdhfomlkpdaa
