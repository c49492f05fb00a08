/-
  Joined texts of this claim's author (each began as a text of its own; each says itself what it holds).
-/
import Derived.Test.YtckkmdigmecagaaGreatDoorRows
import Derived.WalkKit
import Derived.WalkSpells
import Derived.WalkLawsBesides
import Derived.Lib.Hide
import Derived.Deep.AppendLies
import Derived.Deep.Draws
import Derived.Maps.AppendAt
import Derived.Laws.CopyOwn
import Derived.Laws.BytesArg
import Derived.Handy
import Derived.Lib.LazyBuf
set_option linter.unusedVariables false
set_option linter.unusedSimpArgs false

/-
  Words for memory that all proofs of this seat share: a slice that reads as a list of cells, a row that the call owns, what an append, a make, a copy, a conversion leave. No function of the program is named here.
-/
namespace Go.Proofs.YtckkmdigmecagaaGreatDoor
open Go.RowKit

/-! ### Addresses -/
theorem block_of_add (a : Addr) (n : Nat) : (a.add n).block = a.block := by unfold Addr.add; split <;> rfl
theorem add_of_add (a : Addr) (i j : Nat) : (a.add i).add j = a.add (i + j) := by
  unfold Addr.add
  by_cases hi : i = 0 <;> by_cases hj : j = 0 <;> simp [hi, hj, Nat.add_assoc]

/-- Place j of the row that A leads to. -/
def at_ (A : Option Addr) (j : Nat) : Addr := (A.getD ⟨0, 0, none⟩).add j
/-- The block that A leads to. -/
def blk (A : Option Addr) : Option Nat := A.map (·.block)
/-- Where a cut at lo begins. -/
def cutA (A : Option Addr) (c lo : Nat) (size : Nat) : Option Addr := if c = lo then A else A.map (·.add (lo * size))

theorem at_some (a : Addr) (j : Nat) : at_ (some a) j = a.add j := rfl
theorem at_block (A : Option Addr) (j g : Nat) (h : blk A = some g) : (at_ A j).block = g := by
  cases A with
  | none => cases h
  | some a => simp only [at_some, block_of_add]; simpa [blk] using h
theorem blk_cutA (A : Option Addr) (c lo size : Nat) : blk (cutA A c lo size) = blk A := by
  unfold cutA blk
  split
  · rfl
  · cases A <;> simp [block_of_add]
theorem at_cutA (A : Option Addr) (c lo size j : Nat) (h : lo < c) (hA : A = none → c = 0) : at_ (cutA A c lo size) j = at_ A (lo * size + j) := by
  unfold cutA
  rw [if_neg (by omega)]
  cases A with
  | none => have := hA rfl; omega
  | some a => simp [at_, add_of_add]

/-- The slice value '.slice A n c' reads as the cells xs. -/
structure Rd (w : World) (size : Nat) (A : Option Addr) (n c : Nat) (xs : List Value) : Prop where
  len : xs.length = n * size
  le : n ≤ c
  max : c ≤ maxLen
  nil : A = none → c = 0
  cell : ∀ j u, xs[j]? = some u → w.cell? (at_ A j) = some u

theorem Rd.keep {w w' : World} {size : Nat} {A : Option Addr} {n c : Nat} {xs : List Value} (h : Rd w size A n c xs)
    (hk : ∀ g, blk A = some g → g < w.heap.size → w'.heap[g]? = w.heap[g]?) : Rd w' size A n c xs :=
  ⟨h.len, h.le, h.max, h.nil, fun j u hu => by
    have hc := h.cell j u hu
    have hlt := World.block_lt_of_cell? w _ hc
    rw [← hc]
    refine World.cell?_of_block ?_
    cases A with
    | none =>
      have hl := h.len
      have h1 := h.nil rfl
      have h2 := h.le
      have hn : n = 0 := by omega
      subst hn
      have : xs = [] := List.eq_nil_of_length_eq_zero (by simpa using hl)
      subst this
      simp at hu
    | some a =>
      have e : (at_ (some a) j).block = a.block := by simp [at_some, block_of_add]
      rw [e] at hlt ⊢
      exact hk a.block rfl hlt⟩
theorem Rd.below {w w' : World} {size : Nat} {A : Option Addr} {n c : Nat} {xs : List Value} (h : Rd w size A n c xs) (hb : Below w.heap.size w w') : Rd w' size A n c xs :=
  h.keep fun g _ hg => hb.block g hg
theorem Rd.belowB {w w' : World} {B size : Nat} {A : Option Addr} {n c : Nat} {xs : List Value} (h : Rd w size A n c xs) (hb : Below B w w') (hA : ∀ g, blk A = some g → g < B) : Rd w' size A n c xs :=
  h.keep fun g hg _ => hb.block g (hA g hg)
theorem Rd.grown {w w' : World} {row : Option Nat} {size : Nat} {A : Option Addr} {n c : Nat} {xs : List Value} (h : Rd w size A n c xs) (hg : w.grownBy w' row) (hne : ∀ g, blk A = some g → row ≠ some g) : Rd w' size A n c xs :=
  h.keep fun g hA hlt => hg.block g hlt (fun e => hne g hA e.symm)
theorem Rd.nil_ (w : World) (size : Nat) : Rd w size none 0 0 [] := ⟨by simp, Nat.le_refl _, Nat.zero_le _, fun _ => rfl, by simp⟩
theorem Rd.cut {w : World} {size : Nat} {A : Option Addr} {n c : Nat} {xs : List Value} (h : Rd w size A n c xs) {lo hi : Nat} (hl : lo ≤ hi) (hh : hi ≤ n) :
    Rd w size (cutA A c lo size) (hi - lo) (c - lo) ((xs.drop (lo * size)).take ((hi - lo) * size)) := by
  have hle := h.le
  refine ⟨?_, by omega, by have := h.max; omega, ?_, fun j u hu => ?_⟩
  · have : hi * size ≤ n * size := Nat.mul_le_mul_right _ hh
    rw [List.length_take, List.length_drop, h.len, Nat.sub_mul]; omega
  · intro e
    unfold cutA at e
    split at e
    · omega
    · have := h.nil (by cases A <;> simp_all); omega
  · rw [List.getElem?_take] at hu
    split at hu
    · rename_i hj
      rw [List.getElem?_drop] at hu
      have : lo < c := by
        have h1 : 0 < hi - lo := by
          rcases Nat.eq_zero_or_pos (hi - lo) with h0 | h0
          · rw [h0] at hj; omega
          · exact h0
        omega
      rw [at_cutA A c lo size j this h.nil]
      exact h.cell _ _ hu
    · cases hu

/-- A row of the call's own: it lies from block 'base' on, and each of its c places may be written. -/
structure Own (w : World) (base : Nat) (e : TypeId) (size : Nat) (A : Option Addr) (n c : Nat) (xs : List Value) : Prop where
  rd : Rd w size A n c xs
  own : ∀ a, A = some a → a.spot = none ∧ base ≤ a.block ∧ ∃ cur fr, w.heap[a.block]? = some (.cells cur e fr) ∧ a.off + c * size ≤ cur.size ∧ ∀ j, a.off ≤ j → j < a.off + c * size → ¬ (fr.1 ≤ j ∧ j < fr.2)

section
variable {w w' : World} {base : Nat} {e : TypeId} {size : Nat} {A : Option Addr} {n c : Nat} {xs : List Value}
theorem Own.lt (h : Own w base e size A n c xs) : ∀ g, blk A = some g → base ≤ g ∧ g < w.heap.size := by
  intro g hg
  cases A with
  | none => cases hg
  | some a =>
    obtain ⟨_, hb, cur, fr, hh, _⟩ := h.own a rfl
    have : a.block = g := by simpa [blk] using hg
    subst this
    refine ⟨hb, ?_⟩
    rcases Nat.lt_or_ge a.block w.heap.size with hlt | hge
    · exact hlt
    · rw [Array.getElem?_eq_none hge] at hh; cases hh
theorem Own.keep (h : Own w base e size A n c xs) (hk : ∀ g, blk A = some g → base ≤ g → g < w.heap.size → w'.heap[g]? = w.heap[g]?) : Own w' base e size A n c xs :=
  ⟨h.rd.keep fun g hg hlt => hk g hg (h.lt g hg).1 hlt, fun a ha => by
    obtain ⟨h1, h2, cur, fr, hh, h3, h4⟩ := h.own a ha
    have hb : blk A = some a.block := by rw [ha]; rfl
    exact ⟨h1, h2, cur, fr, (hk _ hb h2 (h.lt _ hb).2).trans hh, h3, h4⟩⟩
theorem Own.below (h : Own w base e size A n c xs) (hb : Below w.heap.size w w') : Own w' base e size A n c xs := h.keep fun g _ _ hg => hb.block g hg
theorem Own.grown {row : Option Nat} (h : Own w base e size A n c xs) (hg : w.grownBy w' row) (hne : ∀ g, blk A = some g → row ≠ some g) : Own w' base e size A n c xs :=
  h.keep fun g hA _ hlt => hg.block g hlt (fun e => hne g hA e.symm)
theorem Own.nil_ (w : World) (base : Nat) (e : TypeId) (size : Nat) : Own w base e size none 0 0 [] := ⟨Rd.nil_ w size, fun _ h => by cases h⟩
theorem Own.mono (h : Own w base e size A n c xs) {b' : Nat} (hb : b' ≤ base) : Own w b' e size A n c xs :=
  ⟨h.rd, fun a ha => by obtain ⟨h1, h2, r⟩ := h.own a ha; exact ⟨h1, by omega, r⟩⟩
/-- A new block that is a row. -/
theorem Own.new (w : World) (cur : Array Value) (fr : Nat × Nat) (n c : Nat) (xs : List Value) (hb : base ≤ w.heap.size) (hn : n ≤ c) (hc : c ≤ maxLen) (hl : xs.length = n * size) (hs : c * size ≤ cur.size)
    (hx : ∀ (j : Nat) (u : Value), xs[j]? = some u → cur[j]? = some u) (hf : ∀ j, j < c * size → ¬ (fr.1 ≤ j ∧ j < fr.2)) :
    Own (w.alloc (.cells cur e fr)) base e size (some ⟨w.heap.size, 0, none⟩) n c xs := by
  have hh : (w.alloc (.cells cur e fr)).heap[w.heap.size]? = some (.cells cur e fr) := by
    show (w.heap.push (.cells cur e fr))[w.heap.size]? = _
    simp
  refine ⟨⟨hl, hn, hc, (fun h => by cases h), fun j u hu => ?_⟩, fun a ha => ?_⟩
  · rw [at_some]
    have : (⟨w.heap.size, 0, none⟩ : Addr).add j = ⟨w.heap.size, j, none⟩ := by unfold Addr.add; split <;> simp_all
    rw [this]
    simp only [World.cell?, hh]
    simpa using hx j u hu
  · obtain rfl := Option.some.inj ha
    exact ⟨rfl, hb, cur, fr, hh, by simpa using hs, fun j _ h2 => hf j (by simpa using h2)⟩
/-- A cut from the front: the places behind stay writable. -/
theorem Own.cut0 (h : Own w base e size A n c xs) {hi : Nat} (hh : hi ≤ n) : Own w base e size A hi c (xs.take (hi * size)) := by
  have hle := h.rd.le
  refine ⟨⟨?_, by omega, h.rd.max, h.rd.nil, fun j u hu => ?_⟩, h.own⟩
  · have : hi * size ≤ n * size := Nat.mul_le_mul_right _ hh
    rw [List.length_take, h.rd.len]; omega
  · rw [List.getElem?_take] at hu
    split at hu
    · exact h.rd.cell j u hu
    · cases hu
end

/-! ### What runs -/
/-- What is known of a slice type t of elements e. -/
structure ElemT (P : Program) (t e : TypeId) (z : Value) (size bytes : Nat) : Prop where
  und : P.underlying t = some (.slice e)
  info : ∃ i, P.info? e = some i ∧ i.zero = some z ∧ i.size = size ∧ i.bytes = bytes
  zs : z.cells.size = size
  pos : 0 < size

theorem ElemT.of {P : Program} {t e : TypeId} {z : Value} {size bytes : Nat} (h : P.underlying t = some (.slice e)) (hi : (P.info? e).map (fun i => (i.zero, i.size, i.bytes)) = some (some z, size, bytes)) (hz : z.cells.size = size) (hp : 0 < size) : ElemT P t e z size bytes :=
  ⟨h, info_parts hi, hz, hp⟩
theorem ElemT.elem {P : Program} {t e : TypeId} {z : Value} {size bytes : Nat} (h : ElemT P t e z size bytes) : P.elem t = e := by simp [Program.elem, h.und]
theorem ElemT.size {P : Program} {t e : TypeId} {z : Value} {size bytes : Nat} (h : ElemT P t e z size bytes) (w : World) : (sizeOf e).run P w = .ok size w := by
  obtain ⟨i, hi, _, hs, _⟩ := h.info
  simp [sizeOf, typeInfo, hi, hs]

/-- Stores into a row with a mark that lies elsewhere. -/
theorem run_storeCells_fr (P : Program) (g o : Nat) (t : TypeId) (fr : Nat × Nat) : ∀ (vs : List Value) (i : Nat) (cur : Array Value) (w : World), w.heap[g]? = some (.cells cur t fr) → o + i + vs.length ≤ cur.size →
    (∀ j, o + i ≤ j → j < o + i + vs.length → ¬ (fr.1 ≤ j ∧ j < fr.2)) → (∀ v ∈ vs, v.oneCell' = true) →
    (storeCells ⟨g, o, none⟩ vs i).run P w = .ok () (w.setRow g (cur.toList.take (o + i) ++ vs ++ cur.toList.drop (o + i + vs.length)).toArray)
  | [], i, cur, w, hg, _, _, _ => by
    simp only [storeCells, List.append_nil, List.length_nil, Nat.add_zero, List.take_append_drop, Array.toArray_toList]
    rw [setRow_self w g cur t fr hg]
    rfl
  | v :: rest, i, cur, w, hg, hl, hf, h1 => by
    have hi : o + i < cur.size := by simp at hl; omega
    have hadd : (⟨g, o, none⟩ : Addr).add i = ⟨g, o + i, none⟩ := by unfold Addr.add; split <;> simp_all
    have hcell : w.cell? ⟨g, o + i, none⟩ = some cur[o + i] := by simp [World.cell?, hg, hi]
    have hfro : w.frozen? ⟨g, o + i, none⟩ = false := by
      have := hf (o + i) (Nat.le_refl _) (by simp)
      simp only [World.frozen?, hg]
      simpa [Decidable.not_and_iff_or_not] using this
    have hst : (store ((⟨g, o, none⟩ : Addr).add i) v).run P w = .ok () (w.setRow g (cur.setIfInBounds (o + i) v)) := by
      rw [hadd, run_store P w _ v _ (h1 v (by simp)), hcell]
      simp [hfro, setCell_eq_setRow w g (o + i) cur t fr v hg]
    have ih := run_storeCells_fr P g o t fr rest (i + 1) (cur.setIfInBounds (o + i) v) (w.setRow g (cur.setIfInBounds (o + i) v)) (setRow_heap w g cur _ t _ hg) (by simp at hl ⊢; omega) (fun j h1 h2 => hf j (by omega) (by simp at h2 ⊢; omega)) (fun x hx => h1 x (by simp [hx]))
    simp only [storeCells, Sem.run_bind, hst, Result.andThen_ok, ih, setRow_setRow]
    congr 3
    have e := list_seg_step cur.toList (o + i) v rest (by simp at hl ⊢; omega)
    simpa [Array.toList_setIfInBounds, Nat.add_assoc] using e

section
variable {P : Program} {w : World} {base : Nat} {t e t2 ty : TypeId} {z : Value} {size bytes : Nat} {A : Option Addr} {n c : Nat} {xs : List Value}

theorem run_append_own_gen (et : ElemT P t e z size bytes) (ht2 : P.underlying t2 = some .string ∨ ∃ e2, P.underlying t2 = some (.slice e2))
    (h : Own w base e size A n c xs) (x : Value) (m : Nat) (ys : List Value) (hm : ∀ W, (Builtin.lenOf x).run P W = .ok m W)
    (hy : ∀ W : World, (∀ a v, w.cell? a = some v → W.cell? a = some v) → (Builtin.firstCells size m x).run P W = .ok ys.toArray W)
    (hl : ys.length = m * size) (h1 : ∀ u ∈ ys, u.oneCell' = true) (h63 : n + m ≤ maxLen) (hbytes : (n + m) * bytes ≤ 140737488355328) (hbase : base ≤ w.heap.size) :
    ∃ A' c' w', (Builtin.append_ #[t, t2] ty #[.slice A n c, x]).run P w = .ok (.slice A' (n + m) c') w' ∧ Own w' base e size A' (n + m) c' (xs ++ ys) ∧
      w.grownBy w' (blk A) ∧ (blk A' = blk A ∨ blk A' = some w.heap.size) := by
  obtain ⟨i, hi, hz, rfl, rfl⟩ := et.info
  have ht := et.und
  have hzs := et.zs
  have hpos := et.pos
  have hsmall : n + m ≤ 9223372036854775807 := by simp only [maxLen] at h63; omega
  have hlen : (xs ++ ys).length = (n + m) * i.size := by rw [List.length_append, h.rd.len, hl, Nat.add_mul]
  have hle := h.rd.le
  -- whatever grows
  have grown : c < n + m → (Builtin.append_ #[t, t2] ty #[.slice A n c, x]).run P w = .ok (.slice (some ⟨w.heap.size, 0, none⟩) (n + m) (grownCap w (n + m) c e))
      (w.drew.alloc (.cells (xs.toArray ++ ys.toArray ++ Builtin.zeroCells z.cells (grownCap w (n + m) c e - (n + m))) e)) := by
    intro hg
    have hn : ¬ (n + m ≤ c) := by omega
    have h63' : ¬ (9223372036854775807 < (n : Int) + (m : Int)) := by omega
    have hfit := growslice_fits (need := n + m) (old := c) (bytes := i.bytes) hg hbytes
    have h48' : ¬ (281474976710656 < Builtin.nextslicecap (n + m) c * i.bytes) := by omega
    have hf : (Builtin.firstCells i.size m x).run P w.drew = .ok ys.toArray w.drew := hy _ (fun a v hv => by simpa using hv)
    have hfo : (Builtin.firstCells i.size n (.slice A n c)).run P w.drew = .ok xs.toArray w.drew := by
      cases A with
      | none =>
        have : n = 0 := by have := h.rd.nil rfl; omega
        subst this
        have : xs = [] := List.eq_nil_of_length_eq_zero (by simpa using h.rd.len)
        subst this
        exact run_firstCells_none _ _ _ _ _
      | some a => exact run_firstCells_some (P := P) w.drew i.size n a n c xs h.rd.len (fun j v hv => by simpa [at_some] using h.rd.cell j v hv)
    rcases ht2 with ht2 | ⟨e2, ht2⟩
    all_goals
      simp [Builtin.append_, run_underlying ht, run_underlying ht2, sizeOf, typeInfo, zeroValue, hi, hz, hm, hn, h63', h48', Question.forced, hf, hfo, newRow, grownCap]
      congr 2
      apply Array.ext'
      simp
  have grownOwn : c < n + m → Own (w.drew.alloc (.cells (xs.toArray ++ ys.toArray ++ Builtin.zeroCells z.cells (grownCap w (n + m) c e - (n + m))) e)) base e i.size
      (some ⟨w.heap.size, 0, none⟩) (n + m) (grownCap w (n + m) c e) (xs ++ ys) := by
    intro hg
    have hge := grownCap_ge w (n + m) c e
    have hcm : grownCap w (n + m) c e ≤ maxLen := grownCap_le_maxLen w (n + m) c e h63
    refine Own.new w.drew _ (0, 0) (n + m) _ (xs ++ ys) hbase hge hcm hlen ?_ ?_ (fun j _ hj => by omega)
    · simp only [Array.size_append, List.size_toArray, size_zeroCells, hzs, h.rd.len, hl, ← Nat.add_mul]
      refine Nat.mul_le_mul_right _ ?_
      omega
    · intro j u hu
      have hj : j < (xs ++ ys).length := (List.getElem?_eq_some_iff.1 hu).1
      rw [Array.getElem?_append_left (by simpa using hj)]
      simpa using hu
  by_cases hroom : n + m ≤ c
  · rcases A with _ | ⟨g, o, sp⟩
    · have hc0 := h.rd.nil rfl
      have hn0 : n = 0 := by omega
      have hm0 : m = 0 := by omega
      have hx0 : xs = [] := List.eq_nil_of_length_eq_zero (by rw [h.rd.len, hn0]; simp)
      have hy0 : ys = [] := List.eq_nil_of_length_eq_zero (by rw [hl, hm0]; simp)
      subst hc0; subst hn0; subst hm0; subst hx0; subst hy0
      have hf := hy w (fun _ _ hv => hv)
      refine ⟨none, 0, w, ?_, by simpa using Own.nil_ w base e i.size, World.grownBy.refl w _, .inl rfl⟩
      rcases ht2 with ht2 | ⟨e2, ht2⟩
      all_goals
        simp [Builtin.append_, run_underlying ht, run_underlying ht2, sizeOf, typeInfo, hi, hm, hf]
    · obtain ⟨hsp, hb, cur, fr, hh, hs, hfr⟩ := h.own _ rfl
      dsimp only at hsp hb hh hs hfr
      subst hsp
      have hf := hy w (fun _ _ hv => hv)
      have hadd : (⟨g, o, none⟩ : Addr).add (n * i.size) = ⟨g, o + n * i.size, none⟩ := by unfold Addr.add; split <;> simp_all
      have hmul : (n + m) * i.size ≤ c * i.size := Nat.mul_le_mul_right _ hroom
      have hnm : (n + m) * i.size = n * i.size + m * i.size := Nat.add_mul _ _ _
      have hst := run_storeCells_fr P g (o + n * i.size) e fr ys 0 cur w hh (by rw [hl]; omega) (fun j h1 h2 => hfr j (by omega) (by rw [hl] at h2; omega)) h1
      simp only [Nat.add_zero] at hst
      refine ⟨some ⟨g, o, none⟩, c, w.setRow g (cur.toList.take (o + n * i.size) ++ ys ++ cur.toList.drop (o + n * i.size + ys.length)).toArray, ?_, ?_, ⟨rfl, rfl, rfl, by simp, fun k _ hk => setRow_other w g k _ (fun e => hk (by simp [blk, e]))⟩, .inl rfl⟩
      rotate_left
      · refine ⟨⟨hlen, hroom, h.rd.max, (fun e => by cases e), fun j u hu => ?_⟩, fun a ha => ?_⟩
        · rw [at_some]
          have haj : (⟨g, o, none⟩ : Addr).add j = ⟨g, o + j, none⟩ := by unfold Addr.add; split <;> simp_all
          rw [haj, cell_setRow_same w g _ cur _ e fr hh]
          have hjl : j < (xs ++ ys).length := (List.getElem?_eq_some_iff.1 hu).1
          rw [hlen] at hjl
          have hold : ∀ j u, xs[j]? = some u → cur[o + j]? = some u := by
            intro j u hu
            have := h.rd.cell j u hu
            rw [at_some] at this
            have haj : (⟨g, o, none⟩ : Addr).add j = ⟨g, o + j, none⟩ := by unfold Addr.add; split <;> simp_all
            rw [haj] at this
            simpa [World.cell?, hh] using this
          simp only [List.getElem?_toArray]
          rw [List.append_assoc]
          by_cases hjn : j < n * i.size
          · rw [List.getElem?_append_left (by rw [List.length_take, Array.length_toList]; omega), List.getElem?_take, if_pos (by omega)]
            rw [List.getElem?_append_left (by rw [h.rd.len]; exact hjn)] at hu
            simpa using hold j u hu
          · have hlt : (cur.toList.take (o + n * i.size)).length = o + n * i.size := by rw [List.length_take, Array.length_toList]; omega
            rw [List.getElem?_append_right (by rw [hlt]; omega), hlt, List.getElem?_append_left (by rw [hl]; omega)]
            rw [List.getElem?_append_right (by rw [h.rd.len]; omega), h.rd.len] at hu
            rw [← hu]
            congr 1
            omega
        · obtain rfl := Option.some.inj ha
          refine ⟨rfl, hb, _, fr, setRow_heap w g cur _ e fr hh, ?_, hfr⟩
          simp only [List.size_toArray, List.length_append, List.length_take, List.length_drop, Array.length_toList, hl]
          omega
      · rcases ht2 with ht2 | ⟨e2, ht2⟩
        all_goals
          simp [Builtin.append_, run_underlying ht, run_underlying ht2, sizeOf, typeInfo, hi, hm, hroom, hf, hadd, hst]
  · refine ⟨_, _, _, grown (by omega), grownOwn (by omega), ⟨rfl, rfl, rfl, by simp, fun k hk _ => Below.heap_alloc w.drew _ k hk⟩, .inr rfl⟩
end

/-! ### The same as steps of a walk -/
theorem Rd.lit (w : World) (l : List Value) (e : TypeId) (n : Nat) (hn : l.length = n) (hm : n ≤ maxLen) : Rd (w.alloc (.cells l.toArray e)) 1 (some ⟨w.heap.size, 0, none⟩) n n l :=
  (Own.new (base := 0) (e := e) (size := 1) w l.toArray (0, 0) n n l (Nat.zero_le _) (Nat.le_refl _) hm (by omega) (by simp; omega) (by simp) (fun j _ h => by omega)).rd

theorem Own.lit (w : World) (base : Nat) (l : List Value) (e : TypeId) (n : Nat) (hn : l.length = n) (hm : n ≤ maxLen) (hb : base ≤ w.heap.size) : Own (w.alloc (.cells l.toArray e)) base e 1 (some ⟨w.heap.size, 0, none⟩) n n l :=
  Own.new (base := base) (e := e) (size := 1) w l.toArray (0, 0) n n l hb (Nat.le_refl _) hm (by omega) (by simp; omega) (by simp) (fun j _ h => by omega)
/-- A place of a row of the call's own may be written. -/
theorem Own.free {w : World} {base : Nat} {e : TypeId} {n c : Nat} {A : Option Addr} {xs : List Value} (h : Own w base e 1 A n c xs) {k : Nat} (hk : k < c) : w.frozen? (at_ A k) = false := by
  cases A with
  | none => have := h.rd.nil rfl; omega
  | some a =>
    obtain ⟨h1, _, cur, fr, hh, _, hf⟩ := h.own a rfl
    obtain ⟨b, o, sp⟩ := a
    dsimp only at h1 hh hf
    subst h1
    have e1 : at_ (some ⟨b, o, none⟩) k = ⟨b, o + k, none⟩ := by rw [at_some]; unfold Addr.add; split <;> simp_all
    rw [e1]
    have := hf (o + k) (by omega) (by omega)
    simp only [World.frozen?, hh]
    simpa [Decidable.not_and_iff_or_not] using this
/-- A store into a place of the row. -/
theorem Own.store {w : World} {base : Nat} {e : TypeId} {n c : Nat} {A : Option Addr} {xs : List Value} (h : Own w base e 1 A n c xs) {k : Nat} (hk : k < c) (u : Value) : Own (w.setCell (at_ A k) u) base e 1 A n c (xs.set k u) := by
  cases A with
  | none => have := h.rd.nil rfl; omega
  | some a =>
    obtain ⟨h1, hb, cur, fr, hh, hs, hf⟩ := h.own a rfl
    obtain ⟨b, o, sp⟩ := a
    dsimp only at h1 hb hh hs hf
    subst h1
    have e1 : ∀ j, at_ (some ⟨b, o, none⟩) j = ⟨b, o + j, none⟩ := by intro j; rw [at_some]; unfold Addr.add; split <;> simp_all
    rw [e1]
    have hh' : (w.setCell ⟨b, o + k, none⟩ u).heap[b]? = some (.cells (cur.setIfInBounds (o + k) u) e fr) := by
      rw [setCell_eq_setRow w b (o + k) cur e fr u hh]
      exact setRow_heap w b cur _ e fr hh
    refine ⟨⟨by simpa using h.rd.len, h.rd.le, h.rd.max, h.rd.nil, fun j v hv => ?_⟩, fun a ha => ?_⟩
    · rw [e1]
      simp only [World.cell?, hh']
      have hold : ∀ j v, xs[j]? = some v → cur[o + j]? = some v := by
        intro j v hv
        have := h.rd.cell j v hv
        rw [e1] at this
        simpa [World.cell?, hh] using this
      rw [List.getElem?_set] at hv
      by_cases hjk : k = j
      · subst hjk
        rw [if_pos rfl] at hv
        split at hv
        · have hsz : o + k < cur.size := by omega
          simp only [Option.some.injEq] at hv
          subst hv
          simp [hsz]
        · cases hv
      · rw [if_neg hjk] at hv
        have := hold j v hv
        have hne : ¬ o + k = o + j := by omega
        rw [show (cur.setIfInBounds (o + k) u)[o + j]? = cur[o + j]? from by rw [Array.getElem?_setIfInBounds, if_neg hne]]
        simpa using this
    · obtain rfl := Option.some.inj ha
      exact ⟨rfl, hb, _, fr, hh', by simpa using hs, hf⟩
theorem below_store {w0 w : World} {B : Nat} {e : TypeId} {n c : Nat} {A : Option Addr} {xs : List Value} (hb : Below B w0 w) (h : Own w B e 1 A n c xs) {k : Nat} (hk : k < c) (u : Value) : Below B w0 (w.setCell (at_ A k) u) := by
  cases A with
  | none => have := h.rd.nil rfl; omega
  | some a => exact hb.setCell (by rw [at_some, block_of_add]; exact (h.own a rfl).2.1) u
theorem Rd.lt {w : World} {size n c : Nat} {A : Option Addr} {xs : List Value} (h : Rd w size A n c xs) {k : Nat} (hk : k < xs.length) : ∃ a, A = some a ∧ a.block < w.heap.size := by
  have hc := h.cell k _ (List.getElem?_eq_getElem hk)
  have hlt := World.block_lt_of_cell? w _ hc
  cases A with
  | none =>
    have := h.nil rfl
    have := h.le
    have hn : n = 0 := by omega
    have := h.len
    rw [hn] at this
    omega
  | some a => exact ⟨a, rfl, by simpa [at_some, block_of_add] using hlt⟩

section
variable {P : Program} {w w0 : World} {base B : Nat} {t e t2 ty : TypeId} {z : Value} {size bytes : Nat} {A : Option Addr} {n c : Nat} {xs : List Value}
variable {ops : Array Oper} {rest : List Oper} {o : Oper} {a : Act} {Q : Exit → Act → World → Prop}

theorem Own.alloc (h : Own w base e size A n c xs) (ob : Obj) : Own (w.alloc ob) base e size A n c xs := h.keep fun g _ _ hg => Below.heap_alloc w ob g hg
theorem Rd.alloc (h : Rd w size A n c xs) (ob : Obj) : Rd (w.alloc ob) size A n c xs := h.keep fun g _ hg => Below.heap_alloc w ob g hg
/-- Behind an append onto a row of the call's own. -/
theorem below_own (hb : Below B w0 w) {row : Option Nat} {w' : World} (hg : w.grownBy w' row) (hr : ∀ g, row = some g → B ≤ g) (hB : B ≤ w.heap.size) : Below B w0 w' := hb.grown hg hB hr

theorem wpList_app (hgd : o.guard = none) (s x : Operand) (ho : o.op = .call { callee := .builtin .append, args := #[s, x], argTypes := #[t, t] })
    (et : ElemT P t e z size bytes) (h : Own w base e size A n c xs) (hs : a.eval s = .slice A n c)
    {A2 : Option Addr} {m c2 : Nat} {ys : List Value} (hr : Rd w size A2 m c2 ys) (hx : a.eval x = .slice A2 m c2) (h1 : ∀ u ∈ ys, u.oneCell' = true) (hbytes : (n + m) * bytes ≤ 140737488355328) (hlen : n + m ≤ maxLen) (hbase : base ≤ w.heap.size)
    (k : ∀ A' c' w', Own w' base e size A' (n + m) c' (xs ++ ys) → w.grownBy w' (blk A) → (blk A' = blk A ∨ blk A' = some w.heap.size) → wpList P ops Q rest (a.put o.dst (.slice A' (n + m) c')) w') :
    wpList P ops Q (o :: rest) a w := by
  refine wpList_plain hgd fun K hK => ?_
  have hm : ∀ W, (Builtin.lenOf (.slice A2 m c2)).run P W = .ok m W := fun W => by simp [Builtin.lenOf]
  have hy : ∀ W : World, (∀ a v, w.cell? a = some v → W.cell? a = some v) → (Builtin.firstCells size m (.slice A2 m c2)).run P W = .ok ys.toArray W := by
    intro W hW
    cases A2 with
    | none =>
      have : m = 0 := by have := hr.nil rfl; have := hr.le; omega
      subst this
      have : ys = [] := List.eq_nil_of_length_eq_zero (by simpa using hr.len)
      subst this
      exact run_firstCells_none _ _ _ _ _
    | some ad => exact run_firstCells_some (P := P) W size m ad m c2 ys hr.len (fun j v hv => hW _ _ (hr.cell j v hv))
  obtain ⟨A', c', w', hrun, r1, r2, r3⟩ := run_append_own_gen (P := P) (ty := o.type) et (.inr ⟨_, et.und⟩) h _ m ys hm hy hr.len h1 hlen hbytes hbase
  unfold Oper.wp execOp
  simp only [ho, resolve, invoke, builtin, Sem.run_bind, Sem.run_pure, Result.andThen_ok, List.map_toArray, List.map_cons, List.map_nil, hs, hx, hrun]
  exact hK _ _ (k A' c' w' r1 r2 r3)

/-- The bytes of a string, appended. -/
theorem wpList_app_str (hgd : o.guard = none) (s x : Operand) (ho : o.op = .call { callee := .builtin .append, args := #[s, x], argTypes := #[t, t2] })
    (et : ElemT P t e z 1 1) (ht2 : P.underlying t2 = some .string) (h : Own w base e 1 A n c xs) (hs : a.eval s = .slice A n c)
    (b : ByteArray) (hx : a.eval x = .string b) (hbytes : n + b.size ≤ 140737488355328) (hbase : base ≤ w.heap.size)
    (k : ∀ A' c' w', Own w' base e 1 A' (n + b.size) c' (xs ++ b.data.toList.map fun b => .int .u8 (b.toNat : Int)) → w.grownBy w' (blk A) → (blk A' = blk A ∨ blk A' = some w.heap.size) → wpList P ops Q rest (a.put o.dst (.slice A' (n + b.size) c')) w') :
    wpList P ops Q (o :: rest) a w := by
  refine wpList_plain hgd fun K hK => ?_
  have hm : ∀ W, (Builtin.lenOf (.string b)).run P W = .ok b.size W := fun W => by simp [Builtin.lenOf]
  have hy : ∀ W : World, (∀ a v, w.cell? a = some v → W.cell? a = some v) → (Builtin.firstCells 1 b.size (.string b)).run P W = .ok (b.data.toList.map fun b => Value.int .u8 (b.toNat : Int)).toArray W := by
    intro W _
    have e : Array.map (fun b : UInt8 => Value.int .u8 (b.toNat : Int)) b.data = (b.data.toList.map fun b => Value.int .u8 (b.toNat : Int)).toArray := by
      apply Array.ext'
      simp
    simp [Builtin.firstCells, e]
  obtain ⟨A', c', w', hrun, r1, r2, r3⟩ := run_append_own_gen (P := P) (ty := o.type) et (.inl ht2) h _ b.size _ hm hy (by rw [List.length_map, Nat.mul_one]; rfl) (by intro u hu; obtain ⟨_, _, rfl⟩ := List.mem_map.1 hu; rfl) (by simp only [maxLen]; omega) (by omega) hbase
  unfold Oper.wp execOp
  simp only [ho, resolve, invoke, builtin, Sem.run_bind, Sem.run_pure, Result.andThen_ok, List.map_toArray, List.map_cons, List.map_nil, hs, hx, hrun]
  exact hK _ _ (k A' c' w' r1 r2 r3)

/-- make([]T, n, c). -/
theorem wpList_mk (hgd : o.guard = none) (l d : Operand) (ho : o.op = Op.makeSlice t l d) (et : ElemT P t e z size bytes) {kl kc : IntKind} {L C : Int} (hl : a.eval l = .int kl L) (hc : a.eval d = .int kc C)
    (n c : Nat) (hL : L = n) (hC : C = c) (hnc : n ≤ c) (hb : c * bytes ≤ 140737488355328) (hm : c ≤ maxLen) (hbase : base ≤ w.heap.size)
    (k : ∀ w', Own w' base e size (some ⟨w.heap.size, 0, none⟩) n c (madeCells z.cells (n * size)).toList → w.grownBy w' none → w'.heap.size = w.heap.size + 1 → wpList P ops Q rest (a.put o.dst (.slice (some ⟨w.heap.size, 0, none⟩) n c)) w') :
    wpList P ops Q (o :: rest) a w := by
  refine wpList_plain hgd fun K hK => ?_
  obtain ⟨i, hi, hz, rfl, rfl⟩ := et.info
  subst hL
  subst hC
  have hr := run_make (P := P) w t e i z et.und hi hz kl kc (n : Int) (c : Int) (by omega) (by omega) (by
    have h : ((i.bytes * c : Nat) : Int) ≤ 281474976710656 := by rw [Nat.mul_comm]; omega
    rwa [Int.natCast_mul] at h) (by simp only [maxLen] at hm; omega)
  simp only [Int.toNat_natCast] at hr
  unfold Oper.wp
  simp [execOp, ho, hl, hc, hr, Result.andThen]
  refine hK _ _ (k _ ?_ ⟨rfl, rfl, rfl, by simp, fun g hg _ => Below.heap_alloc _ _ _ hg⟩ (by simp))
  refine Own.new w _ (0, 0) n c _ hbase hnc hm (by simp [size_madeCells]) (by simp [size_madeCells]) (fun j u hu => ?_) (fun j _ h => by omega)
  have hj : j < n * i.size := by
    have := (List.getElem?_eq_some_iff.1 hu).1
    simpa [size_madeCells] using this
  have hjc : j < c * i.size := Nat.lt_of_lt_of_le hj (Nat.mul_le_mul_right _ hnc)
  simp only [madeCells, Array.getElem?_toList, Array.getElem?_map, Array.getElem?_range, hj, hjc, if_true] at hu ⊢
  exact hu
end

/-- Behind 'append(out, x)' of one new value: the block of the value, then the append. -/
theorem below_app {w0 w w' : World} {B : Nat} {e : TypeId} {size n c : Nat} {A : Option Addr} {xs : List Value} {ob : Obj} (hb : Below B w0 w) (hB : B ≤ w0.heap.size) (ho : Own w B e size A n c xs) (hg : (w.alloc ob).grownBy w' (blk A)) : Below B w0 w' :=
  (hb.alloc (Nat.le_trans hB hb.size) ob).grown hg (by have := hb.size; simp; omega) (fun g h => (ho.lt g h).1)
/-- Behind 'append(out, xs...)'. -/
theorem below_apps {w0 w w' : World} {B : Nat} {e : TypeId} {size n c : Nat} {A : Option Addr} {xs : List Value} (hb : Below B w0 w) (hB : B ≤ w0.heap.size) (ho : Own w B e size A n c xs) (hg : w.grownBy w' (blk A)) : Below B w0 w' :=
  hb.grown hg (Nat.le_trans hB hb.size) (fun g h => (ho.lt g h).1)

/-! ### Bytes -/
/-- A byte as a cell. -/
def b8 (x : UInt8) : Value := .int .u8 (x.toNat : Int)
theorem b8_one (l : List UInt8) : ∀ u ∈ l.map b8, u.oneCell' = true := by
  intro u hu
  obtain ⟨_, _, rfl⟩ := List.mem_map.1 hu
  rfl
theorem b8_ofNat (n : Nat) : b8 (UInt8.ofNat n) = .int .u8 ((n % 256 : Nat) : Int) := by simp [b8]

section
variable {P : Program} {w : World} {t e : TypeId} {z : Value} {size bytes : Nat} {A : Option Addr} {n c : Nat} {xs : List Value} {l : List UInt8}
/-- An element's address. -/
theorem run_index_rd (et : ElemT P t e z size bytes) (hnil : A = none → c = 0) (hnc : n ≤ c) (k : Nat) (hk : k < n) (W : World) :
    (Instr.indexAt t (.slice A n c) (.int .i64 (k : Int))).run P W = .ok (.pointer (some (at_ A (k * size)))) W := by
  cases A with
  | none => have := hnil rfl; omega
  | some a =>
    rw [run_indexAt_slice (h := by rw [et.elem]; exact et.und), if_pos (by omega), et.elem, et.size]
    simp [at_some]
theorem Rd.byte (h : Rd w 1 A n c (l.map b8)) (et : ElemT P t e z 1 bytes) {k : Nat} (hk : k < n) :
    ∃ x, Hid (l[k]? = some x) ∧ (∀ W, (Instr.indexAt t (.slice A n c) (.int .i64 (k : Int))).run P W = .ok (.pointer (some (at_ A k))) W) ∧
      w.cell? (at_ A k) = some (.int .u8 (x.toNat : Int)) ∧ (x.toNat : Int) ≤ 255 := by
  have hl := h.len
  simp only [List.length_map, Nat.mul_one] at hl
  have hkl : k < l.length := by omega
  refine ⟨l[k], List.getElem?_eq_getElem hkl, fun W => by simpa using run_index_rd et h.nil h.le k hk W, h.cell k _ ?_, ?_⟩
  · rw [List.getElem?_map, List.getElem?_eq_getElem hkl]; rfl
  · have := l[k].toNat_lt; omega
theorem Rd.byteAt (h : Rd w 1 A n c (l.map b8)) (et : ElemT P t e z 1 bytes) (J : Int) (k : Nat) (hJ : J = k) (hk : k < n) :
    ∃ x, Hid (l[k]? = some x) ∧ (∀ W, (Instr.indexAt t (.slice A n c) (.int .i64 J)).run P W = .ok (.pointer (some (at_ A k))) W) ∧
      w.cell? (at_ A k) = some (.int .u8 (x.toNat : Int)) ∧ (x.toNat : Int) ≤ 255 := by
  subst hJ
  exact h.byte et hk
theorem Rd.lenb (h : Rd w 1 A n c (l.map b8)) : l.length = n := by simpa using h.len
theorem Own.lenb {base : Nat} (h : Own w base e 1 A n c (l.map b8)) : l.length = n := h.rd.lenb
theorem run_slice_lh_rd (et : ElemT P t e z size bytes) {kl kh : IntKind} (lo hi : Nat) {L H : Int} (hL : L = lo) (hH : H = hi) (h1 : lo ≤ hi) (h2 : hi ≤ c) (W : World) :
    (Instr.sliceAt t (.slice A n c) (some (.int kl L)) (some (.int kh H)) none).run P W = .ok (.slice (cutA A c lo size) (hi - lo) (c - lo)) W := by
  subst hL
  subst hH
  have hu : P.underlying t = some (.slice (P.elem t)) := by rw [et.elem]; exact et.und
  rw [run_sliceAt_slice (h := hu), run_slice_lh (ht := hu) (h0 := by omega) (h1 := by omega) (h2 := by omega), et.elem, et.size]
  simp [sliced, cutA]
theorem run_slice_l_rd (et : ElemT P t e z size bytes) {kl : IntKind} (lo : Nat) {L : Int} (hL : L = lo) (h1 : lo ≤ n) (W : World) :
    (Instr.sliceAt t (.slice A n c) (some (.int kl L)) none none).run P W = .ok (.slice (cutA A c lo size) (n - lo) (c - lo)) W := by
  subst hL
  have hu : P.underlying t = some (.slice (P.elem t)) := by rw [et.elem]; exact et.und
  rw [run_sliceAt_slice (h := hu), run_slice_l (ht := hu) (h0 := by omega) (h1 := by omega), et.elem, et.size]
  simp [sliced, cutA]
theorem run_slice_h_rd (et : ElemT P t e z size bytes) {kh : IntKind} (hi : Nat) {H : Int} (hH : H = hi) (h2 : hi ≤ c) (W : World) :
    (Instr.sliceAt t (.slice A n c) none (some (.int kh H)) none).run P W = .ok (.slice A hi c) W := by
  subst hH
  have hu : P.underlying t = some (.slice (P.elem t)) := by rw [et.elem]; exact et.und
  rw [run_sliceAt_slice (h := hu), run_slice_h (ht := hu) (h0 := by omega) (h2 := by omega), et.elem, et.size]
  have ha : A.map (fun x => x.add (0 * size)) = A := by cases A <;> simp [Addr.add]
  simp only [Result.andThen, sliced, ha, ite_self, Nat.sub_zero, Int.toNat_natCast]
/-- string(b). -/
theorem run_str_rd (et : ElemT P t e z 1 bytes) (he : P.underlying e = some (.int .u8)) {dst : TypeId} (hd : P.underlying dst = some .string) (h : Rd w 1 A n c (l.map b8)) :
    (convert t dst (.slice A n c)).run P w = .ok (.string ⟨l.toArray⟩) w := by
  have hl := h.lenb
  subst hl
  cases A with
  | none =>
    have : l = [] := by
      have := h.nil rfl
      have := h.le
      exact List.eq_nil_of_length_eq_zero (by omega)
    subst this
    exact run_convert_bytes_nil w t e et.und he 0 c dst hd
  | some a =>
    refine run_convert_bytes_back w t dst e a c l et.und he hd (fun j hj => ?_)
    have := h.cell j (b8 l[j]) (by rw [List.getElem?_map, List.getElem?_eq_getElem hj]; rfl)
    exact this
end


section
variable {P : Program} {w : World} {base : Nat} {t e : TypeId} {z : Value} {bytes : Nat} {A A2 : Option Addr} {n c m c2 : Nat} {xs ys : List Value}
variable {ops : Array Oper} {rest : List Oper} {o : Oper} {a : Act} {Q : Exit → Act → World → Prop}
/-- A row of cells written into a row of the call's own, from its beginning. -/
theorem Own.storeAll (h : Own w base e 1 A n c xs) (cs : List Value) (hcs : cs.length ≤ n) (g o : Nat) (hA : A = some ⟨g, o, none⟩) {cur : Array Value} {fr : Nat × Nat} (hh : w.heap[g]? = some (.cells cur e fr)) :
    Own (w.setRow g (cur.toList.take o ++ cs ++ cur.toList.drop (o + cs.length)).toArray) base e 1 A n c (cs ++ xs.drop cs.length) := by
  subst hA
  obtain ⟨_, hb, cur', fr', hh', hs, hf⟩ := h.own _ rfl
  dsimp only at hb hh' hs hf
  rw [hh] at hh'
  obtain ⟨rfl, _, rfl⟩ : cur = cur' ∧ e = e ∧ fr = fr' := by
    have := Option.some.inj hh'
    injection this with h1 _ h2
    exact ⟨h1, rfl, h2⟩
  have hl := h.rd.len
  have hle := h.rd.le
  have hsz : (cur.toList.take o ++ cs ++ cur.toList.drop (o + cs.length)).length = cur.size := by
    simp only [List.length_append, List.length_take, List.length_drop, Array.length_toList]
    omega
  refine ⟨⟨by simp; omega, hle, h.rd.max, h.rd.nil, fun j u hu => ?_⟩, fun a ha => ?_⟩
  · have e1 : at_ (some ⟨g, o, none⟩) j = ⟨g, o + j, none⟩ := by rw [at_some]; unfold Addr.add; split <;> simp_all
    rw [e1, cell_setRow_same w g _ cur _ e fr hh]
    simp only [List.getElem?_toArray]
    have ht : (cur.toList.take o).length = o := by rw [List.length_take, Array.length_toList]; omega
    rw [List.append_assoc, List.getElem?_append_right (by rw [ht]; omega), ht, Nat.add_sub_cancel_left]
    by_cases hj : j < cs.length
    · rw [List.getElem?_append_left hj] at hu ⊢
      exact hu
    · rw [List.getElem?_append_right (by omega)] at hu ⊢
      rw [List.getElem?_drop] at hu ⊢
      have e2 : cs.length + (j - cs.length) = j := by omega
      rw [e2] at hu
      have := h.rd.cell j u hu
      rw [e1] at this
      have e3 : o + cs.length + (j - cs.length) = o + j := by omega
      rw [e3]
      simpa [World.cell?, hh] using this
  · obtain rfl := Option.some.inj ha
    exact ⟨rfl, hb, _, fr, setRow_heap w g cur _ e fr hh, by rw [List.size_toArray, hsz]; simpa using hs, hf⟩

/-- copy(dst, src). -/
theorem wpList_cp (hgd : o.guard = none) (d s : Operand) (ho : o.op = .call { callee := .builtin .copy, args := #[d, s], argTypes := #[t, t] }) (et : ElemT P t e z 1 bytes)
    (h : Own w base e 1 A n c xs) (hd : a.eval d = .slice A n c) (hr : Rd w 1 A2 m c2 ys) (hs : a.eval s = .slice A2 m c2) (h1 : ∀ u ∈ ys, u.oneCell' = true)
    (k : ∀ w', Own w' base e 1 A n c (ys.take n ++ xs.drop (min m n)) → w.grownBy w' (blk A) → w'.heap.size = w.heap.size → wpList P ops Q rest (a.put o.dst (.int .i64 (min m n : Nat))) w') :
    wpList P ops Q (o :: rest) a w := by
  refine wpList_plain hgd fun K hK => ?_
  obtain ⟨i, hi, _, hs1, _⟩ := et.info
  have hsz : (P.info? e).map (·.size) = some 1 := by rw [hi]; simp [hs1]
  have hyl : ys.length = m := by simpa using hr.len
  by_cases h0 : Nat.min m n = 0
  · have hrun := run_copy_none (P := P) w t t o.type e A A2 n c m c2 et.und hsz h0
    unfold Oper.wp
    simp [execOp, ho, resolve, invoke, builtin, hd, hs, hrun, Result.andThen]
    have h0' : min m n = 0 := h0
    have hk := k w ?_ (World.grownBy.refl w _) rfl
    · rw [h0'] at hk
      exact hK _ _ hk
    · rw [h0']
      have e1 : ys.take n = [] := by
        rcases Nat.eq_zero_or_pos n with hn | hn
        · rw [hn]; rfl
        · have : ys = [] := List.eq_nil_of_length_eq_zero (by omega)
          rw [this]; simp
      rw [e1]
      simpa using h
  · have hn0 : 0 < n := by have : min m n ≠ 0 := h0; omega
    have hm0 : 0 < m := by have : min m n ≠ 0 := h0; omega
    have hle := h.rd.le
    have hle2 := hr.le
    rcases A with _ | ⟨g, off, sp⟩
    · have := h.rd.nil rfl; omega
    rcases A2 with _ | a2
    · have := hr.nil rfl; omega
    obtain ⟨hsp, hb, cur, fr, hh, hsz2, hfr⟩ := h.own _ rfl
    dsimp only at hsp hb hh hsz2 hfr
    subst hsp
    have hcl : (ys.take n).length = min m n := by rw [List.length_take, hyl]; omega
    have hf : (Builtin.firstCells 1 (min m n) (.slice (some a2) m c2)).run P w = .ok (ys.take n).toArray w :=
      run_firstCells_some (P := P) w 1 (min m n) a2 m c2 (ys.take n) (by rw [hcl]; simp) (fun j v hv => by
        rw [List.getElem?_take] at hv
        split at hv
        · exact hr.cell j v hv
        · cases hv)
    have hst := run_storeCells_fr P g off e fr (ys.take n) 0 cur w hh (by rw [hcl]; omega) (fun j h1 h2 => hfr j (by omega) (by rw [hcl] at h2; omega)) (fun v hv => h1 v (List.mem_of_mem_take hv))
    simp only [Nat.add_zero] at hst
    have hrun : (Builtin.copy_ #[t, t] o.type #[.slice (some ⟨g, off, none⟩) n c, .slice (some a2) m c2]).run P w = .ok (.int .i64 ((min m n : Nat) : Int)) (w.setRow g (cur.toList.take off ++ ys.take n ++ cur.toList.drop (off + (ys.take n).length)).toArray) := by
      have hsz3 := et.size w
      have hmin : Nat.min m n = min m n := rfl
      simp only [Builtin.copy_, List.getElem?_toArray, List.getElem?_cons_zero, List.getElem?_cons_succ, Sem.run_bind, run_underlying et.und, Result.andThen_ok, Builtin.lenOf, Sem.run_pure, hsz3, hmin, hf, hst]
      rfl
    have ho2 := h.storeAll (ys.take n) (by rw [hcl]; omega) g off rfl hh
    rw [hcl] at ho2 hrun
    have hg2 : w.grownBy (w.setRow g (cur.toList.take off ++ ys.take n ++ cur.toList.drop (off + min m n)).toArray) (blk (some ⟨g, off, none⟩)) :=
      ⟨rfl, rfl, rfl, by simp, fun q _ hq => setRow_other w g q _ (fun e => hq (by simp [blk, e]))⟩
    have hz2 : (w.setRow g (cur.toList.take off ++ ys.take n ++ cur.toList.drop (off + min m n)).toArray).heap.size = w.heap.size := by simp
    generalize w.setRow g (cur.toList.take off ++ ys.take n ++ cur.toList.drop (off + min m n)).toArray = W at *
    unfold Oper.wp
    simp [execOp, ho, resolve, invoke, builtin, hd, hs, hrun, Result.andThen]
    exact hK _ _ (k _ ho2 hg2 hz2)
end

end Go.Proofs.YtckkmdigmecagaaGreatDoor

/-
  Plain functions: what package octet writes and reads, on lists of bytes. No program is named here.
-/
namespace Go.Proofs.YtckkmdigmecagaaGreatDoor
open Go.RowKit

/-- v in n bytes, the highest first. -/
def putB (v : Nat) : Nat → List UInt8
  | 0 => []
  | n + 1 => putB (v / 256) n ++ [UInt8.ofNat v]

theorem putB_length (v n : Nat) : (putB v n).length = n := by
  induction n generalizing v with
  | zero => rfl
  | succ n ih => simp [putB, ih]

theorem putB_step (v n j : Nat) (h : j < n) : putB (v / 256 ^ j) (n - j) = putB (v / 256 ^ (j + 1)) (n - (j + 1)) ++ [UInt8.ofNat (v / 256 ^ j)] := by
  obtain ⟨d, rfl⟩ : ∃ d, n = j + 1 + d := ⟨n - (j + 1), by omega⟩
  have e1 : j + 1 + d - j = d + 1 := by omega
  have e2 : j + 1 + d - (j + 1) = d := by omega
  rw [e1, e2, putB, Nat.div_div_eq_div_mul, ← Nat.pow_succ]

theorem putB_cons (v i : Nat) : putB v (i + 1) = UInt8.ofNat (v / 256 ^ i) :: putB v i := by
  induction i generalizing v with
  | zero => simp [putB]
  | succ i ih =>
    have e : v / 256 / 256 ^ i = v / 256 ^ (i + 1) := by rw [Nat.div_div_eq_div_mul, Nat.pow_succ, Nat.mul_comm]
    rw [putB, ih, e, List.cons_append, putB]

/-- The number that bytes are, the highest first. -/
def beN (l : List UInt8) : Nat := l.foldl (fun a x => a * 256 + x.toNat) 0
theorem beN_snoc (l : List UInt8) (x : UInt8) : beN (l ++ [x]) = beN l * 256 + x.toNat := by simp [beN]
theorem foldl_be_lt (l : List UInt8) : ∀ a, l.foldl (fun a x => a * 256 + x.toNat) a < (a + 1) * 256 ^ l.length := by
  induction l with
  | nil => intro a; simp
  | cons x l ih =>
    intro a
    have h1 := ih (a * 256 + x.toNat)
    have h2 := x.toNat_lt
    rw [List.foldl_cons, List.length_cons, Nat.pow_succ, Nat.mul_comm (256 ^ l.length) 256, ← Nat.mul_assoc]
    refine Nat.lt_of_lt_of_le h1 (Nat.mul_le_mul_right _ ?_)
    omega
theorem beN_lt (l : List UInt8) : beN l < 256 ^ l.length := by simpa [beN] using foldl_be_lt l 0
theorem beN_putB (v n : Nat) : beN (putB v n) = v % 256 ^ n := by
  induction n generalizing v with
  | zero => simp [putB, beN, Nat.mod_one]
  | succ n ih =>
    rw [putB, beN_snoc, ih]
    have e : (UInt8.ofNat v).toNat = v % 256 := by simp
    rw [e, Nat.pow_succ, Nat.mul_comm (256 ^ n) 256, Nat.mod_mul]
    omega

/-- v in groups of seven bits, the lowest first. -/
def countB (v : Nat) : List UInt8 := if v < 128 then [UInt8.ofNat v] else UInt8.ofNat (v % 128 + 128) :: countB (v / 128)
termination_by v
decreasing_by omega

/-- The number at the beginning: from place i on, with v already read. -/
def takeC : List UInt8 → Nat → Nat → Nat × Nat × Int
  | [], _, _ => (0, 0, 3)
  | x :: r, i, v =>
    if (i = 9 ∧ 1 < x.toNat) ∨ (x.toNat = 0 ∧ 0 < i) then (0, 0, 4)
    else if x.toNat < 128 then (v + x.toNat * 128 ^ i, i + 1, 0)
    else takeC r (i + 1) (v + (x.toNat - 128) * 128 ^ i)

/-! ### Bits -/
theorem or_join (q x : Int) (hq0 : 0 ≤ q) (hq : q < 72057594037927936) (hx0 : 0 ≤ x) (hx : x ≤ 255) : bits .or .u64 (q * 256) x = q * 256 + x := by
  obtain ⟨Q, rfl⟩ := Int.eq_ofNat_of_zero_le hq0
  obtain ⟨X, rfl⟩ := Int.eq_ofNat_of_zero_le hx0
  have e : (Q : Int) * 256 = ((Q * 256 : Nat) : Int) := by omega
  rw [e, u64_or_nat _ _ (by omega) (by omega), nat_join 8 (Q * 256) X (by omega) (by omega)]
  omega
theorem ofInt_i64 (a : Nat) (ha : a < 9223372036854775808) : (BitVec.ofInt 64 (a : Int)).toNat = a := by
  rw [BitVec.ofInt_natCast, BitVec.toNat_ofNat]; exact Nat.mod_eq_of_lt (by omega)
theorem i64_and_nat (a b : Nat) (ha : a < 9223372036854775808) (hb : b < 9223372036854775808) : bits .and .i64 (a : Int) (b : Int) = ((a &&& b : Nat) : Int) := by
  have hx : a &&& b < 2 ^ 63 := Nat.and_lt_two_pow _ (by omega)
  show IntKind.i64.wrap ((BitVec.ofInt 64 (a : Int) &&& BitVec.ofInt 64 (b : Int)).toNat : Int) = _
  rw [BitVec.toNat_and, ofInt_i64 a ha, ofInt_i64 b hb, IntKind.wrap_i64]
  omega
theorem i64_and7 (k : Int) (h0 : 0 ≤ k) (h1 : k ≤ 9223372036854775807) : bits .and .i64 k 7 = k % 8 := by
  obtain ⟨K, rfl⟩ := Int.eq_ofNat_of_zero_le h0
  have := i64_and_nat K 7 (by omega) (by omega)
  rw [nat_mask3] at this
  exact this.trans (by omega)
theorem u8_and1 (x : Int) (h0 : 0 ≤ x) (h1 : x ≤ 255) : bits .and .u8 x 1 = x % 2 := by
  obtain ⟨K, rfl⟩ := Int.eq_ofNat_of_zero_le h0
  have := u8_and_nat K 1 (by omega) (by omega)
  rw [nat_mask1] at this
  exact this.trans (by omega)
theorem u8_and127 (x : Int) (h0 : 0 ≤ x) (h1 : x ≤ 255) : bits .and .u8 x 127 = x % 128 := by
  obtain ⟨K, rfl⟩ := Int.eq_ofNat_of_zero_le h0
  have := u8_and_nat K 127 (by omega) (by omega)
  rw [nat_mask7] at this
  exact this.trans (by omega)
theorem nat_or128 : ∀ x : Fin 256, x.1 ||| 128 = x.1 % 128 + 128 := by decide +kernel
theorem u8_or128 (x : Int) (h0 : 0 ≤ x) (h1 : x ≤ 255) : bits .or .u8 x 128 = x % 128 + 128 := by
  obtain ⟨K, rfl⟩ := Int.eq_ofNat_of_zero_le h0
  have := u8_or_nat K 128 (by omega) (by omega)
  rw [nat_or128 ⟨K, by omega⟩] at this
  exact this.trans (by dsimp only; omega)
/-- v with seven bits more on top. -/
theorem or_top (v x : Int) (i : Nat) (hv0 : 0 ≤ v) (hv : v < 128 ^ i) (hx0 : 0 ≤ x) (hx : x < 128) (hi : i ≤ 9) (h9 : x * 128 ^ i ≤ 18446744073709551615) : bits .or .u64 v (x * 128 ^ i) = v + x * 128 ^ i := by
  obtain ⟨V, rfl⟩ := Int.eq_ofNat_of_zero_le hv0
  obtain ⟨X, rfl⟩ := Int.eq_ofNat_of_zero_le hx0
  have hp : (128 : Nat) ^ i = 2 ^ (7 * i) := by rw [Nat.pow_mul]
  have hpi : (128 : Int) ^ i = ((128 ^ i : Nat) : Int) := by rw [Int.natCast_pow]; rfl
  rw [hpi] at hv h9 ⊢
  have h128 : (128 : Nat) ^ i ≤ 128 ^ 9 := Nat.pow_le_pow_right (by omega) hi
  have e : (X : Int) * ((128 ^ i : Nat) : Int) = ((X * 128 ^ i : Nat) : Int) := by rw [Int.natCast_mul]
  rw [e] at h9 ⊢
  have hV : V < 128 ^ i := by omega
  rw [u64_or_nat _ _ (by have : (128:Nat)^9 = 9223372036854775808 := by decide
                         omega) (by omega), Nat.or_comm, nat_join (7 * i) (X * 128 ^ i) V (by rw [hp, Nat.mul_mod_left]) (by rw [← hp]; exact hV)]
  omega

theorem takeC_step {l : List UInt8} {j : Nat} {x : UInt8} (h : l[j]? = some x) (q : Nat) : takeC (l.drop j) j q =
    if (j = 9 ∧ 1 < x.toNat) ∨ (x.toNat = 0 ∧ 0 < j) then (0, 0, 4) else if x.toNat < 128 then (q + x.toNat * 128 ^ j, j + 1, 0) else takeC (l.drop (j + 1)) (j + 1) (q + (x.toNat - 128) * 128 ^ j) := by
  obtain ⟨hj, rfl⟩ := List.getElem?_eq_some_iff.1 h
  rw [List.drop_eq_getElem_cons hj, takeC]
theorem takeC_end {l : List UInt8} {j : Nat} (h : l.length ≤ j) (q : Nat) : takeC (l.drop j) j q = (0, 0, 3) := by
  rw [List.drop_eq_nil_of_le h, takeC]
theorem pow128 (j : Nat) : (2 : Int) ^ (7 * j) = ((128 ^ j : Nat) : Int) := by
  have : (128 : Nat) ^ j = 2 ^ (7 * j) := by rw [Nat.pow_mul]
  rw [this, Int.natCast_pow]
  rfl
theorem tc_or (q : Int) (x j : Nat) (hq0 : 0 ≤ q) (hq : q.toNat < 128 ^ j) (hx : x ≤ 255) (hj : j ≤ 9) (h9 : j = 9 → x ≤ 1) :
    bits .or .u64 q (IntKind.u64.wrap ((x : Int) % 128 * 2 ^ (7 * j))) = ((q.toNat + x % 128 * 128 ^ j : Nat) : Int) := by
  obtain ⟨V, rfl⟩ := Int.eq_ofNat_of_zero_le hq0
  have hb : x % 128 * 128 ^ j ≤ 9223372036854775808 := by
    by_cases h : j = 9
    · subst h
      have := h9 rfl
      have : (128 : Nat) ^ 9 = 9223372036854775808 := by decide
      rw [this]
      omega
    · have h1 : (128 : Nat) ^ j ≤ 128 ^ 8 := Nat.pow_le_pow_right (by omega) (by omega)
      have h2 : x % 128 * 128 ^ j ≤ 127 * 128 ^ 8 := Nat.mul_le_mul (by omega) h1
      have : 127 * (128 : Nat) ^ 8 ≤ 9223372036854775808 := by decide
      omega
  have e : (x : Int) % 128 * 2 ^ (7 * j) = ((x % 128 * 128 ^ j : Nat) : Int) := by rw [pow128, Int.natCast_mul]; rfl
  have hw : IntKind.u64.wrap ((x % 128 * 128 ^ j : Nat) : Int) = ((x % 128 * 128 ^ j : Nat) : Int) := by rw [IntKind.wrap_u64]; omega
  rw [e, hw]
  have hp : (128 : Nat) ^ j = 2 ^ (7 * j) := by rw [Nat.pow_mul]
  have hV : V < 128 ^ j := by omega
  have h128 : (128 : Nat) ^ j ≤ 128 ^ 9 := Nat.pow_le_pow_right (by omega) hj
  have h19 : (128 : Nat) ^ 9 = 9223372036854775808 := by decide
  rw [u64_or_nat _ _ (by omega) (by omega), Nat.or_comm, nat_join (7 * j) (x % 128 * 128 ^ j) V (by rw [hp, Nat.mul_mod_left]) (by rw [← hp]; exact hV)]
  simp only [Int.toNat_natCast]
  omega

theorem xor_u64_ones (x : Int) (h0 : 0 ≤ x) (h1 : x ≤ 18446744073709551615) : bits .xor .u64 x 18446744073709551615 = 18446744073709551615 - x := by
  obtain ⟨X, rfl⟩ := Int.eq_ofNat_of_zero_le h0
  have h := u64_xor_nat X 18446744073709551615 (by omega) (by omega)
  have e : X ^^^ 18446744073709551615 = 18446744073709551615 - X := by
    have h2 : (BitVec.ofNat 64 X ^^^ BitVec.allOnes 64).toNat = 18446744073709551615 - X := by
      rw [BitVec.xor_allOnes, BitVec.toNat_not, BitVec.toNat_ofNat, Nat.mod_eq_of_lt (by omega)]
    rw [BitVec.toNat_xor, BitVec.toNat_ofNat, Nat.mod_eq_of_lt (by omega), BitVec.toNat_allOnes] at h2
    exact h2
  rw [e] at h
  exact h.trans (by omega)
theorem xor_u64_zero (x : Int) (h0 : 0 ≤ x) (h1 : x ≤ 18446744073709551615) : bits .xor .u64 x 0 = x := by
  obtain ⟨X, rfl⟩ := Int.eq_ofNat_of_zero_le h0
  have h := u64_xor_nat X 0 (by omega) (by omega)
  rw [Nat.xor_zero] at h
  exact h
theorem zig_bits (v : Int) (h0 : -9223372036854775808 ≤ v) (h1 : v ≤ 9223372036854775807) :
    bits .xor .u64 (IntKind.u64.wrap (IntKind.u64.wrap v * 2)) (IntKind.u64.wrap (v / 9223372036854775808)) = if v < 0 then 2 * -(v + 1) + 1 else 2 * v := by
  simp only [IntKind.wrap_u64]
  by_cases h : v < 0
  · have e1 : v / 9223372036854775808 % 18446744073709551616 = 18446744073709551615 := by omega
    rw [if_pos h, e1, xor_u64_ones _ (by omega) (by omega)]
    omega
  · have e1 : v / 9223372036854775808 % 18446744073709551616 = 0 := by omega
    rw [if_neg h, e1, xor_u64_zero _ (by omega) (by omega)]
    omega
theorem xor_i64_ones (x : Int) (h0 : 0 ≤ x) (h1 : x ≤ 9223372036854775807) : bits .xor .i64 x (-1) = -x - 1 := by
  obtain ⟨X, rfl⟩ := Int.eq_ofNat_of_zero_le h0
  show IntKind.i64.wrap ((BitVec.ofInt 64 (X : Int) ^^^ BitVec.ofInt 64 (-1)).toNat : Int) = _
  have e : BitVec.ofInt 64 (-1) = BitVec.allOnes 64 := by decide
  rw [e, BitVec.xor_allOnes, BitVec.toNat_not, ofInt_i64 X (by omega), IntKind.wrap_i64]
  omega
theorem xor_i64_zero (x : Int) (h0 : 0 ≤ x) (h1 : x ≤ 9223372036854775807) : bits .xor .i64 x 0 = x := by
  obtain ⟨X, rfl⟩ := Int.eq_ofNat_of_zero_le h0
  show IntKind.i64.wrap ((BitVec.ofInt 64 (X : Int) ^^^ BitVec.ofInt 64 0).toNat : Int) = _
  have e : BitVec.ofInt 64 0 = 0#64 := by decide
  rw [e, BitVec.xor_zero, ofInt_i64 X (by omega), IntKind.wrap_i64]
  omega
theorem zag_bits (v : Int) (h0 : 0 ≤ v) (h1 : v ≤ 18446744073709551615) :
    bits .xor .i64 (v / 2) (wrap64 (-wrap64 (bits .and .u64 v 1))) = if v % 2 = 1 then -(v / 2) - 1 else v / 2 := by
  rw [and_one_u64 v h0 h1]
  by_cases h : v % 2 = 1
  · have e : wrap64 (-wrap64 (v % 2)) = -1 := by rw [h]; unfold wrap64; omega
    rw [if_pos h, e, xor_i64_ones _ (by omega) (by omega)]
  · have e0 : v % 2 = 0 := by omega
    have e : wrap64 (-wrap64 (v % 2)) = 0 := by rw [e0]; unfold wrap64; omega
    rw [if_neg h, e, xor_i64_zero _ (by omega) (by omega)]
theorem wrap_bits (v k : Int) (h0 : 0 ≤ v) (h1 : v ≤ 18446744073709551615) (hk1 : 1 ≤ k) (hk2 : k ≤ 64) :
    wrap64 (IntKind.u64.wrap (v * 2 ^ (64 - k).toNat)) / 2 ^ (64 - k).toNat = if v % 2 ^ k.toNat < 2 ^ (k.toNat - 1) then v % 2 ^ k.toNat else v % 2 ^ k.toNat - 2 ^ k.toNat := by
  obtain ⟨K, rfl⟩ := Int.eq_ofNat_of_zero_le (show 0 ≤ k by omega)
  obtain ⟨q, rfl⟩ : ∃ q, K = q + 1 := ⟨K - 1, by omega⟩
  have e1 : (64 - ((q + 1 : Nat) : Int)).toNat = 63 - q := by omega
  have e2 : ((q + 1 : Nat) : Int).toNat = q + 1 := by omega
  rw [e1, e2, Nat.add_sub_cancel, IntKind.wrap_u64]
  have hs : (2 : Int) ^ (63 - q) * 2 ^ (q + 1) = 18446744073709551616 := by
    rw [← Int.pow_add, show 63 - q + (q + 1) = 64 by omega]; decide
  have hs2 : (2 : Int) ^ (63 - q) * 2 ^ q = 9223372036854775808 := by
    rw [← Int.pow_add, show 63 - q + q = 63 by omega]; decide
  have hpos : (0 : Int) < 2 ^ (63 - q) := Int.pow_pos (by omega)
  have hpq : (0 : Int) < 2 ^ (q + 1) := Int.pow_pos (by omega)
  generalize (2 : Int) ^ (63 - q) = S at *
  have hm : v * S % 18446744073709551616 = S * (v % 2 ^ (q + 1)) := by rw [← hs, Int.mul_comm v S, Int.mul_emod_mul_of_pos _ _ hpos]
  rw [hm]
  have hm0 : 0 ≤ v % 2 ^ (q + 1) := Int.emod_nonneg _ (by omega)
  have hm1 : v % 2 ^ (q + 1) < 2 ^ (q + 1) := Int.emod_lt_of_pos _ hpq
  generalize v % 2 ^ (q + 1) = M at *
  have hb0 : 0 ≤ S * M := Int.mul_nonneg (by omega) hm0
  have hb1 : S * M < 18446744073709551616 := by rw [← hs]; exact Int.mul_lt_mul_of_pos_left hm1 hpos
  by_cases hlt : M < 2 ^ q
  · have : S * M < 9223372036854775808 := by rw [← hs2]; exact Int.mul_lt_mul_of_pos_left hlt hpos
    rw [if_pos hlt, show wrap64 (S * M) = S * M from by unfold wrap64; omega, Int.mul_ediv_cancel_left _ (by omega)]
  · have : 9223372036854775808 ≤ S * M := by rw [← hs2]; exact Int.mul_le_mul_of_nonneg_left (by omega) (by omega)
    rw [if_neg hlt, show wrap64 (S * M) = S * M - 18446744073709551616 from by unfold wrap64; omega, ← hs, ← Int.mul_sub, Int.mul_ediv_cancel_left _ (by omega)]

/-! ### Counts and bits -/
theorem countB_big (q : Nat) (h : 128 ≤ q) : countB q = UInt8.ofNat (q % 128 + 128) :: countB (q / 128) := by rw [countB, if_neg (by omega)]
theorem countB_small (q : Nat) (h : q < 128) : countB q = [UInt8.ofNat q] := by rw [countB, if_pos h]
theorem countB_length (k : Nat) : ∀ v, v < 128 ^ (k + 1) → (countB v).length ≤ k + 1 := by
  induction k with
  | zero => intro v h; rw [countB_small v (by omega)]; simp
  | succ k ih =>
    intro v h
    by_cases hv : v < 128
    · rw [countB_small v hv]; simp
    · rw [countB_big v (by omega), List.length_cons]
      have := ih (v / 128) (by rw [Nat.pow_succ] at h; omega)
      omega
theorem count_len (q v len : Nat) (h : q * 128 ^ len ≤ v) (hv : v ≤ 18446744073709551615) (hq : 127 < q) : len ≤ 8 := by
  rcases Nat.lt_or_ge len 9 with h9 | h9
  · omega
  · have h1 : (128 : Nat) ^ 9 ≤ 128 ^ len := Nat.pow_le_pow_right (by omega) h9
    have h2 : 128 * 128 ^ 9 ≤ q * 128 ^ len := Nat.mul_le_mul (by omega) h1
    have h3 : 128 * (128 : Nat) ^ 9 = 1180591620717411303424 := by decide
    omega
theorem count_next (q v len : Nat) (h : q * 128 ^ len ≤ v) : q / 128 * 128 ^ (len + 1) ≤ v := by
  refine Nat.le_trans ?_ h
  rw [Nat.pow_succ, Nat.mul_comm (128 ^ len) 128, ← Nat.mul_assoc]
  exact Nat.mul_le_mul_right _ (Nat.div_mul_le_self q 128)
theorem count_byte (q : Int) (h0 : 0 ≤ q) : Value.int .u8 (bits .or .u8 (q % 256) 128) = b8 (UInt8.ofNat (q.toNat % 128 + 128)) := by
  rw [u8_or128 _ (by omega) (by omega), b8_ofNat]
  congr 1
  omega
theorem small_byte (q : Int) (h0 : 0 ≤ q) (h1 : q ≤ 127) : Value.int .u8 q = b8 (UInt8.ofNat q.toNat) := by
  rw [b8_ofNat]
  congr 1
  omega

/-- x with bit j so. -/
def setBitB (x : UInt8) (j : Nat) (on : Bool) : UInt8 :=
  UInt8.ofNat (if x.toNat / 2 ^ j % 2 = (if on then 1 else 0) then x.toNat else if on then x.toNat + 2 ^ j else x.toNat - 2 ^ j)
theorem pow2_mod : ∀ j : Fin 8, (2 : Int) ^ j.1 % 256 = ((2 ^ j.1 : Nat) : Int) ∧ 2 ^ j.1 < 256 := by decide
theorem nat_off : ∀ x : Fin 256, ∀ j : Fin 8, x.1 &&& (255 - 2 ^ j.1) = (if x.1 / 2 ^ j.1 % 2 = 0 then x.1 else x.1 - 2 ^ j.1) % 256 := by decide +kernel
theorem nat_on : ∀ x : Fin 256, ∀ j : Fin 8, (x.1 &&& (255 - 2 ^ j.1)) ||| 2 ^ j.1 = (if x.1 / 2 ^ j.1 % 2 = 1 then x.1 else x.1 + 2 ^ j.1) % 256 := by decide +kernel
theorem bits_off (x : UInt8) (j : Nat) (hj : j < 8) : bits .andNot .u8 (x.toNat : Int) ((2 : Int) ^ j % 256) = ((setBitB x j false).toNat : Int) := by
  obtain ⟨h1, h2⟩ := pow2_mod ⟨j, hj⟩
  dsimp only at h1 h2
  have h3 := nat_off ⟨x.toNat, x.toNat_lt⟩ ⟨j, hj⟩
  dsimp only at h3
  rw [h1, u8_andNot_nat _ _ x.toNat_lt h2, h3, setBitB]
  simp
theorem bits_on (x : UInt8) (j : Nat) (hj : j < 8) : bits .or .u8 (bits .andNot .u8 (x.toNat : Int) ((2 : Int) ^ j % 256)) ((2 : Int) ^ j % 256) = ((setBitB x j true).toNat : Int) := by
  obtain ⟨h1, h2⟩ := pow2_mod ⟨j, hj⟩
  dsimp only at h1 h2
  have h3 := nat_on ⟨x.toNat, x.toNat_lt⟩ ⟨j, hj⟩
  dsimp only at h3
  have h4 : x.toNat &&& (255 - 2 ^ j) < 256 := Nat.lt_of_le_of_lt Nat.and_le_left x.toNat_lt
  rw [h1, u8_andNot_nat _ _ x.toNat_lt h2, u8_or_nat _ _ h4 h2, h3, setBitB]
  simp

theorem takeC_bounds (l : List UInt8) : ∀ (i v : Nat), v < 128 ^ i → i ≤ 9 →
    (takeC l i v).1 ≤ 18446744073709551615 ∧ (takeC l i v).2.1 ≤ i + l.length ∧ ((takeC l i v).2.2 ≠ 0 → (takeC l i v).1 = 0 ∧ (takeC l i v).2.1 = 0) ∧ ((takeC l i v).2.2 = 0 → i < (takeC l i v).2.1) ∧ 0 ≤ (takeC l i v).2.2 ∧ (takeC l i v).2.2 ≤ 4 := by
  induction l with
  | nil => intro i v _ _; simp [takeC]
  | cons x r ih =>
    intro i v hv hi
    rw [takeC]
    by_cases hbad : (i = 9 ∧ 1 < x.toNat) ∨ (x.toNat = 0 ∧ 0 < i)
    · rw [if_pos hbad]; simp
    · rw [if_neg hbad]
      have hx := x.toNat_lt
      by_cases h128 : x.toNat < 128
      · rw [if_pos h128]
        have h19 : (128 : Nat) ^ 9 = 9223372036854775808 := by decide
        have hle : v + x.toNat * 128 ^ i ≤ 18446744073709551615 := by
          by_cases h9 : i = 9
          · subst h9
            rw [h19] at hv ⊢
            omega
          · have h1 : (128 : Nat) ^ i ≤ 128 ^ 8 := Nat.pow_le_pow_right (by omega) (by omega)
            have h2 : x.toNat * 128 ^ i ≤ 127 * 128 ^ 8 := Nat.mul_le_mul (by omega) h1
            have h3 : (128 : Nat) ^ 8 = 72057594037927936 := by decide
            omega
        refine ⟨hle, by simp, by simp, by simp, by simp, by simp⟩
      · rw [if_neg h128]
        have h1 : (x.toNat - 128) * 128 ^ i ≤ 127 * 128 ^ i := Nat.mul_le_mul_right _ (by omega)
        have h2 := ih (i + 1) (v + (x.toNat - 128) * 128 ^ i) (by rw [Nat.pow_succ]; omega) (by omega)
        obtain ⟨a, b, c, d, e, f⟩ := h2
        exact ⟨a, by rw [List.length_cons]; omega, c, fun h => by have := d h; omega, e, f⟩

/-- What TakeCount(b) hands back. -/
def tcR (l : List UInt8) : Nat × Nat × Int := takeC l 0 0

end Go.Proofs.YtckkmdigmecagaaGreatDoor

/-
  The element type of bytes in this program.
-/
namespace Go.Proofs.YtckkmdigmecagaaGreatDoor
open Go.RowKit

theorem eb : ElemT Tryz.prog 27 5 (.int .u8 0) 1 1 := ElemT.of Tryz.underlying27 (by kernel_rfl) rfl (by omega)

end Go.Proofs.YtckkmdigmecagaaGreatDoor

/-
  The string of a row of bytes.
-/
namespace Go.Proofs.YtckkmdigmecagaaGreatDoor
open Go.RowKit

theorem str_rd {A : Option Addr} {n c : Nat} {l : List UInt8} {w : World} (h : Rd w 1 A n c (l.map b8)) : (convert 27 9 (.slice A n c)).run Tryz.prog w = .ok (.string ⟨l.toArray⟩) w :=
  run_str_rd eb Tryz.underlying5 Tryz.underlying9 h

end Go.Proofs.YtckkmdigmecagaaGreatDoor

/-
  The contracts of package cofferlaw0: Twin, Kept, Spoil.
-/
namespace Go.Proofs.YtckkmdigmecagaaGreatDoor
open Go.RowKit

/-- The three bytes behind a twin. -/
def e5 : List UInt8 := [0xe5, 0xe5, 0xe5]

theorem madeCells_one (z : Value) (n : Nat) (hz : z.cells = #[z]) : (madeCells z.cells n).toList = List.replicate n z := by
  rw [hz]
  exact toList_madeCells_one z n

set_option maxRecDepth 20000 in
set_option maxHeartbeats 400000 in
theorem Twin_any (A : Option Addr) (n c : Nat) (l : List UInt8) (w : World) (h : Rd w 1 A n c (l.map b8)) (hn : n ≤ 1073741824) :
    Calls Tryz.prog 9 #[.slice A n c] w fun e w' => ∃ A', e = .returned (.slice A' n (n + 3)) ∧ Own w' w.heap.size 5 1 A' (n + 3) (n + 3) ((l ++ e5).map b8) ∧ Below w.heap.size w w' := by
  have hln := h.lenb
  have hsl := run_slice_h_rd (P := Tryz.prog) (A := some ⟨w.heap.size, 0, none⟩) (n := n + 3) (c := n + 3) eb (kh := .i64) n (H := (n : Int)) rfl (by omega)
  go_enter Tryz.func9, Tryz.ntmps9
  go_wp2_with (first
    | (at_make
       refine wpList_mk rfl _ _ rfl eb rfl rfl (n + 3) (n + 3) (by omega) (by omega) (by omega) (by omega) (by unfold maxLen; omega) (Nat.le_refl _) ?_
       intro w1 ho1 hg1 hz1
       rw [madeCells_one _ _ rfl] at ho1)
    | (refine wpList_cp (o := ⟨some 11, _, _, _, _, _⟩) rfl _ _ rfl eb ho1 rfl (h.grown hg1 (by simp)) rfl (b8_one _) ?_
       intro w2 ho2 hg2 hz2))
  have hb2 : Below w.heap.size w w2 := ((Below.refl _ _).grown hg1 (Nat.le_refl _) (by simp)).grown hg2 hg1.size (fun g hg => (ho1.lt g hg).1)
  have e1 : (l.map b8).take (n + 3) ++ (List.replicate ((n + 3) * 1) (Value.int .u8 0)).drop (min n (n + 3)) = l.map b8 ++ List.replicate 3 (Value.int .u8 0) := by
    rw [List.take_of_length_le (by simp; omega), List.drop_replicate]
    congr 2
    omega
  rw [e1] at ho2
  clear e1
  go_loopw [4] (fun i wr => ∃ j : Nat, n ≤ j ∧ j ≤ n + 3 ∧ i = .int .i64 j ∧ Own wr w.heap.size 5 1 (some ⟨w.heap.size, 0, none⟩) (n + 3) (n + 3) (l.map b8 ++ (List.replicate (j - n) (Value.int .u8 229) ++ List.replicate (n + 3 - j) (Value.int .u8 0))) ∧ Below w.heap.size w wr) (fun i _ => n + 3 - (intOf i).toNat)
  case atStart => exact ⟨n, by omega, by omega, rfl, by simpa using ho2, hb2⟩
  case round =>
    obtain ⟨j, hj1, hj2, rfl, ho, hb⟩ := hrel
    by_cases hjn : j < n + 3
    · have hidx := run_index_rd (P := Tryz.prog) (A := some ⟨w.heap.size, 0, none⟩) (n := n + 3) (c := n + 3) eb (fun h => by cases h) (Nat.le_refl _) j hjn
      rw [Nat.mul_one] at hidx
      have hfr := ho.free hjn
      have hce := ho.rd.cell j (.int .u8 0) (by
        rw [List.getElem?_append_right (by simp; omega), List.getElem?_append_right (by simp; omega), List.getElem?_replicate, if_pos (by simp; omega)])
      have hst := ho.store hjn (.int .u8 229)
      have hbs := below_store hb ho hjn (.int .u8 229)
      go_wp2_with fail
      go_roundw
      case rel =>
        refine ⟨j + 1, by omega, by omega, by go_num, ?_, hbs⟩
        have e2 : (l.map b8 ++ (List.replicate (j - n) (Value.int .u8 229) ++ List.replicate (n + 3 - j) (Value.int .u8 0))).set j (Value.int .u8 229) =
            l.map b8 ++ (List.replicate (j + 1 - n) (Value.int .u8 229) ++ List.replicate (n + 3 - (j + 1)) (Value.int .u8 0)) := by
          obtain ⟨d, rfl⟩ : ∃ d, j = n + d := ⟨j - n, by omega⟩
          obtain ⟨m, hm⟩ : ∃ m, n + 3 - (n + d) = m + 1 := ⟨2 - d, by omega⟩
          have e3 : n + d - n = d := by omega
          have e4 : n + d + 1 - n = d + 1 := by omega
          have e5' : n + 3 - (n + d + 1) = m := by omega
          rw [hm, e3, e4, e5', List.replicate_succ, List.set_append_right _ _ (by simp; omega), List.set_append_right _ _ (by simp; omega)]
          simp only [List.length_map, List.length_replicate, hln, Nat.add_sub_cancel_left, Nat.sub_self, List.set_cons_zero]
          rw [List.replicate_succ', List.append_assoc]
          rfl
        rw [e2] at hst
        exact hst
      case measure => simp [intOf]; omega
    · have e : j = n + 3 := by omega
      subst e
      go_wp2_with fail
      go_ret
      refine ⟨_, rfl, ?_, hb⟩
      have e6 : n + 3 - n = 3 := by omega
      have e7 : n + 3 - (n + 3) = 0 := by omega
      rw [e6, e7] at ho
      simpa [e5, b8] using ho

set_option maxRecDepth 20000 in
set_option maxHeartbeats 400000 in
theorem Kept_true (A : Option Addr) (n : Nat) (A2 : Option Addr) (c2 : Nat) (l : List UInt8) (w : World) (h : Rd w 1 A (n + 3) (n + 3) ((l ++ e5).map b8)) (h2 : Rd w 1 A2 n c2 (l.map b8)) (hn : n ≤ 1073741824) :
    Calls Tryz.prog 11 #[.slice A n (n + 3), .slice A2 n c2] w fun e w' => e = .returned (.bool true) ∧ w = w' := by
  have hln := h2.lenb
  have hsl := run_slice_h_rd (P := Tryz.prog) (A := A) (n := n) (c := n + 3) eb (kh := .i64) (n + 3) (H := (n : Int) + 3) (by omega) (by omega)
  have h1 : Rd w 1 A n (n + 3) (l.map b8) := by
    refine ⟨by simp [hln], by omega, h.max, h.nil, fun j u hu => h.cell j u ?_⟩
    rw [List.map_append, List.getElem?_append_left (by have := (List.getElem?_eq_some_iff.1 hu).1; exact this)]
    exact hu
  have hs1 := str_rd h1
  have hs2 := str_rd h2
  go_enter Tryz.func11, Tryz.ntmps11
  go_wp2_with fail
  go_loop [6] (fun i => ∃ j : Nat, n ≤ j ∧ j ≤ n + 3 ∧ i = .int .i64 j) (fun i => n + 3 - (intOf i).toNat)
  case atStart => exact ⟨n, by omega, by omega, rfl⟩
  case round =>
    obtain ⟨j, hj1, hj2, rfl⟩ := hrel
    by_cases hjn : j < n + 3
    · have hidx := run_index_rd (P := Tryz.prog) (A := A) (n := n + 3) (c := n + 3) eb h.nil (Nat.le_refl _) j hjn
      rw [Nat.mul_one] at hidx
      have hce := h.cell j (.int .u8 229) (by
        obtain ⟨d, rfl⟩ : ∃ d, j = n + d := ⟨j - n, by omega⟩
        rw [List.map_append, List.getElem?_append_right (by simp; omega)]
        simp only [List.length_map, hln, Nat.add_sub_cancel_left]
        have hd : d < 3 := by omega
        match d, hd with
        | 0, _ => rfl
        | 1, _ => rfl
        | 2, _ => rfl)
      go_wp2_with fail
      refine ⟨⟨j + 1, by omega, by omega, by go_num⟩, by simp [intOf]; omega⟩
    · have e : j = n + 3 := by omega
      subst e
      go_wp2_with fail
      go_ret
      exact ⟨rfl, rfl⟩

theorem Own.cellAt {w : World} {base : Nat} {e : TypeId} {n c : Nat} {A : Option Addr} {xs : List Value} (h : Own w base e 1 A n c xs) {k : Nat} (hk : k < c) : ∃ u, w.cell? (at_ A k) = some u := by
  cases A with
  | none => have := h.rd.nil rfl; omega
  | some a =>
    obtain ⟨h1, _, cur, fr, hh, hs, _⟩ := h.own a rfl
    obtain ⟨b, o, sp⟩ := a
    dsimp only at h1 hh hs
    subst h1
    have e1 : at_ (some ⟨b, o, none⟩) k = ⟨b, o + k, none⟩ := by rw [at_some]; unfold Addr.add; split <;> simp_all
    rw [e1]
    refine ⟨cur[o + k]'(by omega), ?_⟩
    simp only [World.cell?, hh]
    simp only [Option.isSome_none, Bool.false_eq_true, if_false]
    exact Array.getElem?_eq_getElem (by omega)

theorem grownBy_store {w0 w : World} {e : TypeId} {base n c : Nat} {A : Option Addr} {xs : List Value} (hg : w0.grownBy w (blk A)) (h : Own w base e 1 A n c xs) {k : Nat} (hk : k < c) (u : Value) : w0.grownBy (w.setCell (at_ A k) u) (blk A) := by
  cases A with
  | none => have := h.rd.nil rfl; omega
  | some a =>
    refine ⟨hg.os, hg.tape, hg.output, by simpa [World.setCell] using hg.size, fun q hq hne => ?_⟩
    rw [Below.heap_setCell _ _ _ _ (by rw [at_some, block_of_add]; intro e; exact hne (by rw [e]; rfl))]
    exact hg.block q hq hne

set_option maxRecDepth 20000 in
set_option maxHeartbeats 400000 in
theorem Spoil_any (base : Nat) (A : Option Addr) (n c : Nat) (xs : List Value) (w : World) (h : Own w base 5 1 A n c xs) :
    Calls Tryz.prog 12 #[.slice A n c] w fun e w' => e = .returned (.tuple #[]) ∧ w.grownBy w' (blk A) ∧ w'.heap.size = w.heap.size := by
  have hmx := h.rd.max
  have hle := h.rd.le
  have hnil := h.rd.nil
  unfold maxLen at hmx
  have hsl := run_slice_h_rd (P := Tryz.prog) (A := A) (n := n) (c := c) eb (kh := .i64) c (H := (c : Int)) rfl (Nat.le_refl _)
  have H := Lib.hid h
  clear h
  go_enter Tryz.func12, Tryz.ntmps12
  go_wp2_with fail
  go_loopw [3] (fun i wr => ∃ (j : Nat) (ys : List Value), j ≤ c ∧ i = .int .i64 j ∧ Own wr base 5 1 A n c ys ∧ w.grownBy wr (blk A) ∧ Hid (wr.heap.size = w.heap.size)) (fun i _ => c - (intOf i).toNat)
  case atStart => exact ⟨0, xs, by omega, rfl, H.out, World.grownBy.refl _ _, rfl⟩
  case round =>
    obtain ⟨j, ys, hj, rfl, ho, hg, hz⟩ := hrel
    by_cases hjn : j < c
    · have hidx := run_index_rd (P := Tryz.prog) (A := A) (n := c) (c := c) eb hnil (Nat.le_refl _) j hjn
      rw [Nat.mul_one] at hidx
      have hfr := ho.free hjn
      obtain ⟨u, hce⟩ := ho.cellAt hjn
      have hst := ho.store hjn (.int .u8 90)
      have hgs := grownBy_store hg ho hjn (.int .u8 90)
      have hzs := Lib.hid (show (wr.setCell (at_ A j) (.int .u8 90)).heap.size = w.heap.size by rw [← hz.out]; simp [World.setCell])
      go_wp2_with fail
      go_roundw
      case rel => exact ⟨j + 1, _, by omega, by go_num, hst, hgs, hzs⟩
      case measure => simp [intOf]; omega
    · go_wp2_with fail
      go_end0
      exact ⟨rfl, hg, hz.out⟩

end Go.Proofs.YtckkmdigmecagaaGreatDoor

/-
  Package chunk: a body behind a pointer; digit, want.
-/
namespace Go.Proofs.YtckkmdigmecagaaGreatDoor
open Go.RowKit

/-! ### What stays -/
/-- But for the blocks of S, and new ones, all is as it was. -/
structure But (S : Nat → Prop) (w w' : World) : Prop where
  os : w'.os = w.os
  tape : w'.tape = w.tape
  output : w'.output = w.output
  size : w.heap.size ≤ w'.heap.size
  block : ∀ k, k < w.heap.size → ¬ S k → w'.heap[k]? = w.heap[k]?
theorem But.refl (S : Nat → Prop) (w : World) : But S w w := ⟨rfl, rfl, rfl, Nat.le_refl _, fun _ _ _ => rfl⟩
theorem But.trans {S T : Nat → Prop} {a b c : World} (h : But S a b) (k : But T b c) (hT : ∀ i, T i → S i ∨ a.heap.size ≤ i) : But S a c :=
  ⟨k.os.trans h.os, k.tape.trans h.tape, k.output.trans h.output, Nat.le_trans h.size k.size, fun i hi hn => (k.block i (Nat.lt_of_lt_of_le hi h.size) (fun ht => by rcases hT i ht with h1 | h1; exact hn h1; omega)).trans (h.block i hi hn)⟩
theorem But.below {S : Nat → Prop} {w w' : World} {B : Nat} (h : But S w w') (hS : ∀ i, S i → B ≤ i) (hB : B ≤ w.heap.size) : Below B w w' :=
  ⟨h.os, h.tape, h.output, h.size, fun k hk => h.block k (Nat.lt_of_lt_of_le hk hB) (fun hs => by have := hS k hs; omega)⟩
theorem But.of_below {S : Nat → Prop} {w w' : World} (h : Below w.heap.size w w') : But S w w' := ⟨h.os, h.tape, h.output, h.size, fun k hk _ => h.block k hk⟩
theorem But.of_grown {S : Nat → Prop} {row : Option Nat} {w w' : World} (h : w.grownBy w' row) (hS : ∀ g, row = some g → S g) : But S w w' :=
  ⟨h.os, h.tape, h.output, h.size, fun k hk hn => h.block k hk (fun e => hn (hS k e.symm))⟩
theorem But.set {S : Nat → Prop} {w w' : World} (h : But S w w') {a : Addr} (v : Value) (hS : S a.block ∨ w.heap.size ≤ a.block) : But S w (w'.setCell a v) :=
  ⟨h.os, h.tape, h.output, by simpa [World.setCell] using h.size, fun k hk hn => by
    have hne : a.block ≠ k := by
      rcases hS with h1 | h1
      · intro e; subst e; exact hn h1
      · omega
    rw [← h.block k hk hn]
    simp [World.setCell, Array.getElem?_modify, hne]⟩
theorem But.drew {S : Nat → Prop} {w w' : World} (h : But S w w') : But S w w'.drew := ⟨h.os, h.tape, h.output, h.size, h.block⟩

/-! ### A body -/
/-- A body's plain state: what comes next, bytes to come, digits, the error; and what it has. -/
structure St where
  nx : Int
  lf : Int
  dg : Int
  bd : Int
  got : List UInt8
def bodyCells (s : St) (A : Option Addr) (n c : Nat) : Array Value := #[.int .i64 s.nx, .int .i64 s.lf, .int .i64 s.dg, .slice A n c, .int .i64 s.bd]
/-- Block g is a body that has its bytes in a row of its own. -/
structure Body (w : World) (base g : Nat) (A : Option Addr) (n c : Nat) (s : St) : Prop where
  ge : base ≤ g
  obj : w.heap[g]? = some (.cells (bodyCells s A n c) 79 (0, 0))
  row : Own w base 5 1 A n c (s.got.map b8)
  ne : blk A ≠ some g

theorem Body.keep {w w' : World} {base g : Nat} {A : Option Addr} {n c : Nat} {s : St} (h : Body w base g A n c s) (h1 : w'.heap[g]? = w.heap[g]?) (h2 : ∀ k, blk A = some k → w'.heap[k]? = w.heap[k]?) : Body w' base g A n c s :=
  ⟨h.ge, h1.trans h.obj, h.row.keep fun k hk _ _ => h2 k hk, h.ne⟩
theorem Body.lt {w : World} {base g : Nat} {A : Option Addr} {n c : Nat} {s : St} (h : Body w base g A n c s) : g < w.heap.size := (Array.getElem?_eq_some_iff.1 h.obj).1
theorem cell_of {w : World} {g i : Nat} {cs : Array Value} {t : TypeId} {fr : Nat × Nat} {v : Value} (h : w.heap[g]? = some (.cells cs t fr)) (hv : cs[i]? = some v) : w.cell? ⟨g, i, none⟩ = some v := by
  simp [World.cell?, h, hv]
theorem frozen_of {w : World} {g i : Nat} {cs : Array Value} {t : TypeId} (h : w.heap[g]? = some (.cells cs t (0, 0))) : w.frozen? ⟨g, i, none⟩ = false := by
  simp [World.frozen?, h]
/-- A body's cells, and that none is frozen. -/
theorem Body.facts {w : World} {base g : Nat} {A : Option Addr} {n c : Nat} {s : St} (h : Body w base g A n c s) :
    w.cell? ⟨g, 0, none⟩ = some (.int .i64 s.nx) ∧ w.cell? ⟨g, 1, none⟩ = some (.int .i64 s.lf) ∧ w.cell? ⟨g, 2, none⟩ = some (.int .i64 s.dg) ∧ w.cell? ⟨g, 3, none⟩ = some (.slice A n c) ∧ w.cell? ⟨g, 4, none⟩ = some (.int .i64 s.bd) ∧
    w.frozen? ⟨g, 0, none⟩ = false ∧ w.frozen? ⟨g, 1, none⟩ = false ∧ w.frozen? ⟨g, 2, none⟩ = false ∧ w.frozen? ⟨g, 3, none⟩ = false ∧ w.frozen? ⟨g, 4, none⟩ = false :=
  ⟨cell_of h.obj rfl, cell_of h.obj rfl, cell_of h.obj rfl, cell_of h.obj rfl, cell_of h.obj rfl, frozen_of h.obj, frozen_of h.obj, frozen_of h.obj, frozen_of h.obj, frozen_of h.obj⟩

/-- A cell of the block is set. -/
theorem heap_setCell {w : World} {g i : Nat} {cs : Array Value} {t : TypeId} {fr : Nat × Nat} (v : Value) (h : w.heap[g]? = some (.cells cs t fr)) : (w.setCell ⟨g, i, none⟩ v).heap[g]? = some (.cells (cs.setIfInBounds i v) t fr) := by
  simp [World.setCell, Array.getElem?_modify, h]
theorem heap_setCell_ne {w : World} {g i k : Nat} (v : Value) (h : g ≠ k) : (w.setCell ⟨g, i, none⟩ v).heap[k]? = w.heap[k]? := by
  simp [World.setCell, Array.getElem?_modify, h]
theorem Body.set {w : World} {base g : Nat} {A : Option Addr} {n c : Nat} {s : St} (h : Body w base g A n c s) (i : Nat) (v : Value) (s' : St) (hc : (bodyCells s A n c).setIfInBounds i v = bodyCells s' A n c) (hg : s'.got = s.got) : Body (w.setCell ⟨g, i, none⟩ v) base g A n c s' :=
  ⟨h.ge, by rw [heap_setCell v h.obj, hc], by
    rw [hg]
    exact h.row.keep fun k hk _ _ => heap_setCell_ne v (fun e => h.ne (by rw [hk, e])), h.ne⟩
/-- Its bytes lie in another row. -/
theorem Body.move {w : World} {base g : Nat} {A A' : Option Addr} {n c n' c' : Nat} {s : St} {l : List UInt8} (hobj : w.heap[g]? = some (.cells (bodyCells s A n c) 79 (0, 0))) (hge : base ≤ g) (ho : Own w base 5 1 A' n' c' (l.map b8)) (hne : blk A' ≠ some g) : Body (w.setCell ⟨g, 3, none⟩ (.slice A' n' c')) base g A' n' c' { s with got := l } :=
  ⟨hge, by rw [heap_setCell _ hobj]; rfl, ho.keep fun k hk _ _ => heap_setCell_ne _ (fun e => hne (by rw [hk, e])), hne⟩

/-! ### digit -/
/-- What a digit stands for; -1: none. -/
def digP (c : Int) : Int := if 48 ≤ c ∧ c ≤ 57 then c - 48 else if 97 ≤ c ∧ c ≤ 102 then c - 87 else if 65 ≤ c ∧ c ≤ 70 then c - 55 else -1
theorem or32' : ∀ c : Fin 256, c.1 ||| 32 = if c.1 / 32 % 2 = 1 then c.1 else c.1 + 32 := by decide +kernel
theorem or32 (c : Nat) (h : c < 256) : bits .or .u8 (c : Int) 32 = ((if c / 32 % 2 = 1 then c else c + 32 : Nat) : Int) := by
  have h1 := u8_or_nat c 32 h (by omega)
  rw [or32' ⟨c, h⟩] at h1
  exact h1

set_option maxHeartbeats 1000000 in
theorem digit_any (c : UInt8) (w : World) :
    Calls Tryz.prog 47 #[.int .u8 (c.toNat : Int)] w fun e w' => e = .returned (.tuple #[.int .i64 (max 0 (digP (c.toNat : Int))), .bool (decide (0 ≤ digP (c.toNat : Int)))]) ∧ w = w' := by
  have hc := c.toNat_lt
  obtain ⟨C, hC⟩ : ∃ C, c.toNat = C := ⟨_, rfl⟩
  rw [hC] at hc ⊢
  have hE := or32 C (by omega)
  obtain ⟨E, hE'⟩ : ∃ E : Nat, (if C / 32 % 2 = 1 then C else C + 32) = E := ⟨_, rfl⟩
  rw [hE'] at hE
  have hcase : (48 ≤ C ∧ C ≤ 57) ∨ (C < 48 ∧ E < 97) ∨ (57 < C ∧ C < 65 ∧ (E < 97)) ∨ (57 < C ∧ 65 ≤ C ∧ C ≤ 70 ∧ 97 ≤ E ∧ E ≤ 102 ∧ E = C + 32) ∨ (70 < C ∧ C < 97 ∧ (102 < E ∨ E < 97)) ∨ (97 ≤ C ∧ C ≤ 102 ∧ 97 ≤ E ∧ E ≤ 102 ∧ E = C) ∨ (102 < C ∧ 102 < E) := by
    split at hE' <;> omega
  have HE := Lib.hid hE
  clear hE'
  rcases hcase with ⟨h1, h2⟩ | ⟨h1, h2⟩ | ⟨h1, h2, h3⟩ | ⟨h1, h2, h3, h4, h5, hEq⟩ | ⟨h1, h2, h3 | h3⟩ | ⟨h1, h2, h3, h4, hEq⟩ | ⟨h1, h2⟩
  all_goals
    obtain ⟨d, hd⟩ : ∃ d, digP (C : Int) = d := ⟨_, rfl⟩
    have hd' := hd
    unfold digP at hd'
    first | (rw [if_pos (by omega)] at hd') | (rw [if_neg (by omega), if_pos (by omega)] at hd') | (rw [if_neg (by omega), if_neg (by omega), if_pos (by omega)] at hd') | (rw [if_neg (by omega), if_neg (by omega), if_neg (by omega)] at hd')
    rw [hd]
    clear hd
    first
      | (have e1 : max 0 d = (C : Int) - 48 := by omega
         rw [e1, show decide (0 ≤ d) = true by simp; omega])
      | (have e1 : max 0 d = (E : Int) - 97 + 10 := by omega
         rw [e1, show decide (0 ≤ d) = true by simp; omega])
      | (have e1 : max 0 d = 0 := by omega
         rw [e1, show decide (0 ≤ d) = false by simp; omega])
    clear hd'
    try clear hEq
    go_enter Tryz.func47, Tryz.ntmps47
    go_wp2_with fail
    go_ret2
    exact ⟨rfl, rfl⟩

end Go.Proofs.YtckkmdigmecagaaGreatDoor

/-
  Package chunk: want, take.
-/
namespace Go.Proofs.YtckkmdigmecagaaGreatDoor
open Go.RowKit

theorem far {g i j : Nat} (h : i ≠ j) (W : World) (v : Value) : (W.setCell ⟨g, i, none⟩ v).cell? ⟨g, j, none⟩ = W.cell? ⟨g, j, none⟩ := by
  apply World.cell?_setCell_other
  intro e
  simp only [Addr.mk.injEq] at e
  exact h e.2.1
def wantP (s : St) (c must nx : Int) : St × Int := if c = must then ({ s with nx := nx }, 0) else (s, 4)
/-- What a call may write: the body and its row. -/
def Mine (g : Nat) (A : Option Addr) (k : Nat) : Prop := k = g ∨ blk A = some k

theorem want_any {w : World} {base g : Nat} {A : Option Addr} {n c : Nat} {s : St} (hb : Body w base g A n c s) (x must nx : Int) :
    Calls Tryz.prog 48 #[.pointer (some ⟨g, 0, none⟩), .int .u8 x, .int .u8 must, .int .i64 nx] w fun e w' => e = .returned (.int .i64 (wantP s x must nx).2) ∧ Body w' base g A n c (wantP s x must nx).1 ∧ But (Mine g A) w w' := by
  obtain ⟨c0, c1, c2, c3, c4, f0, f1, f2, f3, f4⟩ := hb.facts
  have hB := hb.set 0 (.int .i64 nx) { s with nx := nx } rfl rfl
  have hw : But (Mine g A) w (w.setCell ⟨g, 0, none⟩ (.int .i64 nx)) := (But.refl _ w).set _ (.inl (.inl rfl))
  by_cases hx : x = must
  · subst hx
    have e : wantP s x x nx = ({ s with nx := nx }, 0) := if_pos rfl
    rw [e]
    clear e
    go_enter Tryz.func48, Tryz.ntmps48
    go_wp2_with fail
    go_ret
    exact ⟨rfl, hB, hw⟩
  · have e : wantP s x must nx = (s, 4) := if_neg hx
    rw [e]
    clear e
    have hx' : (x != must) = true := by simpa using hx
    go_enter Tryz.func48, Tryz.ntmps48
    go_wp2_with fail
    go_ret
    exact ⟨rfl, hb, But.refl _ _⟩

/-- A byte is taken. -/
def takeP (s : St) (c : UInt8) : St × Int :=
  if s.nx = 1 ∨ s.nx = 4 then ({ s with got := s.got ++ [c], lf := s.lf - 1, nx := if 1 < s.lf then s.nx else if s.nx = 1 then 9 else 5 }, 0)
  else if s.nx = 2 then
    (if 0 ≤ digP (c.toNat : Int) ∧ s.dg < 8 then ({ s with lf := s.lf * 16 + digP (c.toNat : Int), dg := s.dg + 1 }, 0) else if s.dg = 0 then (s, 4) else wantP s (c.toNat : Int) 13 3)
  else if s.nx = 3 then
    (if (c.toNat : Int) ≠ 10 then ({ s with dg := 0 }, 4) else if 4096 - (s.got.length : Int) < s.lf then ({ s with dg := 0 }, 2) else if s.lf = 0 then ({ s with dg := 0, nx := 7 }, 0) else ({ s with dg := 0, nx := 4 }, 0))
  else if s.nx = 5 then wantP s (c.toNat : Int) 13 6
  else if s.nx = 6 then wantP s (c.toNat : Int) 10 2
  else if s.nx = 7 then wantP s (c.toNat : Int) 13 8
  else if s.nx = 8 then wantP s (c.toNat : Int) 10 9
  else (s, 0)
/-- The numbers' bounds. -/
def Num (s : St) : Prop := 0 ≤ s.lf ∧ s.lf ≤ 68719476735 ∧ 0 ≤ s.dg ∧ s.dg ≤ 8 ∧ s.got.length ≤ 1048576

def TakeSpec (w : World) (base g : Nat) (A : Option Addr) (s : St) (x : UInt8) : Prop :=
    Calls Tryz.prog 34 #[.pointer (some ⟨g, 0, none⟩), .int .u8 (x.toNat : Int)] w fun e w' => ∃ A' n' c', e = .returned (.int .i64 (takeP s x).2) ∧ Body w' base g A' n' c' (takeP s x).1 ∧ But (Mine g A) w w' ∧ ∀ k, blk A' = some k → blk A = some k ∨ w.heap.size ≤ k

/-- The four that want one byte. -/
theorem take_want {w : World} {base g : Nat} {A : Option Addr} {n c : Nat} {s : St} (hb : Body w base g A n c s) (x : UInt8) (h : s.nx = 5 ∨ s.nx = 6 ∨ s.nx = 7 ∨ s.nx = 8) : TakeSpec w base g A s x := by
  obtain ⟨c0, c1, c2, c3, c4, f0, f1, f2, f3, f4⟩ := hb.facts
  obtain ⟨nx, lf, dg, bd, got⟩ := s
  dsimp only at h c0 c1 c2 c4
  unfold TakeSpec
  rcases h with rfl | rfl | rfl | rfl
  all_goals
    first
      | (have e : takeP ⟨5, lf, dg, bd, got⟩ x = wantP ⟨5, lf, dg, bd, got⟩ (x.toNat : Int) 13 6 := rfl
         rw [e]
         clear e)
      | (have e : takeP ⟨6, lf, dg, bd, got⟩ x = wantP ⟨6, lf, dg, bd, got⟩ (x.toNat : Int) 10 2 := rfl
         rw [e]
         clear e)
      | (have e : takeP ⟨7, lf, dg, bd, got⟩ x = wantP ⟨7, lf, dg, bd, got⟩ (x.toNat : Int) 13 8 := rfl
         rw [e]
         clear e)
      | (have e : takeP ⟨8, lf, dg, bd, got⟩ x = wantP ⟨8, lf, dg, bd, got⟩ (x.toNat : Int) 10 9 := rfl
         rw [e]
         clear e)
    go_enter Tryz.func34, Tryz.ntmps34
    go_wp2_with fail
    refine (want_any hb _ _ _).mono ?_
    rintro e w' ⟨rfl, hb', hw'⟩
    go_wp2_with fail
    go_ret
    exact ⟨A, n, c, rfl, hb', hw', fun k hk => .inl hk⟩

end Go.Proofs.YtckkmdigmecagaaGreatDoor

/-
  Package chunk: take, the rest of its states.
-/
namespace Go.Proofs.YtckkmdigmecagaaGreatDoor
open Go.RowKit

theorem Body.drew {w : World} {base g : Nat} {A : Option Addr} {n c : Nat} {s : St} (h : Body w base g A n c s) : Body w.drew base g A n c s := h.keep rfl fun _ _ => rfl

set_option maxHeartbeats 1000000 in
theorem take_line {w : World} {base g : Nat} {A : Option Addr} {n c : Nat} {s : St} (hb : Body w base g A n c s) (x : UInt8) (h : s.nx = 3) (hN : Num s) : TakeSpec w base g A s x := by
  obtain ⟨c0, c1, c2, c3, c4, f0, f1, f2, f3, f4⟩ := hb.facts
  have hlen := hb.row.rd.lenb
  obtain ⟨nx, lf, dg, bd, got⟩ := s
  obtain ⟨n1, n2, n3, n4, n5⟩ := hN
  dsimp only at h c0 c1 c2 c4 n1 n2 n3 n4 n5 hlen
  subst h
  have l1 := (far (g := g) (i := 2) (j := 1) (by omega) w (.int .i64 0)).trans c1
  have l3 := (far (g := g) (i := 2) (j := 3) (by omega) w (.int .i64 0)).trans c3
  have hB := hb.set 2 (.int .i64 0) ⟨3, lf, 0, bd, got⟩ rfl rfl
  have hw : But (Mine g A) w (w.setCell ⟨g, 2, none⟩ (.int .i64 0)) := (But.refl _ w).set _ (.inl (.inl rfl))
  have hx := x.toNat_lt
  unfold TakeSpec
  obtain ⟨X, hX⟩ : ∃ X, x.toNat = X := ⟨_, rfl⟩
  by_cases h10 : (X : Int) = 10
  · have h10' : ((X : Int) != 10) = false := by simpa using h10
    by_cases h2 : 4096 - (n : Int) < lf
    · have e : takeP ⟨3, lf, dg, bd, got⟩ x = (⟨3, lf, 0, bd, got⟩, 2) := by simp [takeP, hX, h10, hlen, h2]
      rw [e, hX]
      clear e hX h10
      go_enter Tryz.func34, Tryz.ntmps34
      go_wp2_with fail
      go_region
      all_goals (go_wp2_with fail; go_ret; exact ⟨A, n, c, rfl, hB.drew, hw.drew, fun k hk => .inl hk⟩)
    · have h2' : lf ≤ 4096 - (n : Int) := by omega
      have hl2 : lf ≤ 4096 := by omega
      by_cases h0 : lf = 0
      · have hB2 := hB.drew.set 0 (.int .i64 7) ⟨7, 0, 0, bd, got⟩ (by subst h0; rfl) rfl
        have hw2 := hw.drew.set (a := ⟨g, 0, none⟩) (.int .i64 7) (.inl (.inl rfl))
        have e : takeP ⟨3, lf, dg, bd, got⟩ x = (⟨7, 0, 0, bd, got⟩, 0) := by subst h0; simp [takeP, hX, h10, hlen, h2]
        rw [e, hX]
        clear e hX h10 h2
        have h0' : (lf == 0) = true := by simpa using h0
        subst h0
        go_enter Tryz.func34, Tryz.ntmps34
        go_wp2_with fail
        go_region
        all_goals (go_wp2_with fail; go_ret; exact ⟨A, n, c, rfl, hB2, hw2, fun k hk => .inl hk⟩)
      · have hB2 := hB.drew.set 0 (.int .i64 4) ⟨4, lf, 0, bd, got⟩ rfl rfl
        have hw2 := hw.drew.set (a := ⟨g, 0, none⟩) (.int .i64 4) (.inl (.inl rfl))
        have e : takeP ⟨3, lf, dg, bd, got⟩ x = (⟨4, lf, 0, bd, got⟩, 0) := by simp [takeP, hX, h10, hlen, h2, h0]
        rw [e, hX]
        clear e hX h10 h2
        have h0' : (lf == 0) = false := by simpa using h0
        clear h0
        go_enter Tryz.func34, Tryz.ntmps34
        go_wp2_with fail
        go_region
        all_goals (go_wp2_with fail; go_ret; exact ⟨A, n, c, rfl, hB2, hw2, fun k hk => .inl hk⟩)
  · have e : takeP ⟨3, lf, dg, bd, got⟩ x = (⟨3, lf, 0, bd, got⟩, 4) := by simp [takeP, hX, h10]
    rw [e, hX]
    clear e hX
    have h10' : ((X : Int) != 10) = true := by simpa using h10
    clear h10
    go_enter Tryz.func34, Tryz.ntmps34
    go_wp2_with fail
    go_ret
    exact ⟨A, n, c, rfl, hB, hw, fun k hk => .inl hk⟩

end Go.Proofs.YtckkmdigmecagaaGreatDoor

/-
  Package chunk: take where bytes of data come.
-/
namespace Go.Proofs.YtckkmdigmecagaaGreatDoor
open Go.RowKit

theorem obj_facts {w : World} {g : Nat} {A : Option Addr} {n c : Nat} {s : St} (h : w.heap[g]? = some (.cells (bodyCells s A n c) 79 (0, 0))) :
    w.cell? ⟨g, 0, none⟩ = some (.int .i64 s.nx) ∧ w.cell? ⟨g, 1, none⟩ = some (.int .i64 s.lf) ∧ w.cell? ⟨g, 2, none⟩ = some (.int .i64 s.dg) ∧ w.cell? ⟨g, 3, none⟩ = some (.slice A n c) ∧ w.cell? ⟨g, 4, none⟩ = some (.int .i64 s.bd) ∧
    w.frozen? ⟨g, 0, none⟩ = false ∧ w.frozen? ⟨g, 1, none⟩ = false ∧ w.frozen? ⟨g, 2, none⟩ = false ∧ w.frozen? ⟨g, 3, none⟩ = false ∧ w.frozen? ⟨g, 4, none⟩ = false :=
  ⟨cell_of h rfl, cell_of h rfl, cell_of h rfl, cell_of h rfl, cell_of h rfl, frozen_of h, frozen_of h, frozen_of h, frozen_of h, frozen_of h⟩

set_option maxRecDepth 20000 in
set_option maxHeartbeats 2000000 in
theorem take_data {w : World} {base g : Nat} {A : Option Addr} {n c : Nat} {s : St} (hb : Body w base g A n c s) (x : UInt8) (h : s.nx = 1 ∨ s.nx = 4) (hN : Num s) : TakeSpec w base g A s x := by
  obtain ⟨c0, c1, c2, c3, c4, f0, f1, f2, f3, f4⟩ := hb.facts
  have hlen := hb.row.rd.lenb
  obtain ⟨nx, lf, dg, bd, got⟩ := s
  obtain ⟨n1, n2, n3, n4, n5⟩ := hN
  dsimp only at h c0 c1 c2 c4 n1 n2 n3 n4 n5 hlen
  have hgs : base ≤ w.heap.size := Nat.le_trans hb.ge (Nat.le_of_lt hb.lt)
  have hglt := hb.lt
  have F31 := fun W v => far (g := g) (i := 3) (j := 1) (by omega) W v
  have F30 := fun W v => far (g := g) (i := 3) (j := 0) (by omega) W v
  have F10 := fun W v => far (g := g) (i := 1) (j := 0) (by omega) W v
  unfold TakeSpec
  have hcase : ∀ nx', (nx' = if 1 < lf then nx else if nx = 1 then 9 else 5) → takeP ⟨nx, lf, dg, bd, got⟩ x = (⟨nx', lf - 1, dg, bd, got ++ [x]⟩, 0) := by
    intro nx' e
    subst e
    unfold takeP
    rw [if_pos h]
  have hn5 : (n : Int) ≤ 1048576 := by omega
  by_cases hl : 1 < lf
  all_goals rcases h with rfl | rfl
  all_goals
    have e := hcase _ (by first | rw [if_pos hl] | (rw [if_neg hl, if_pos rfl]) | (rw [if_neg hl, if_neg (by omega)]))
    rw [e]
    clear e hcase
    have h01 : (decide (0 < lf - 1)) = (decide (1 < lf)) := by rw [decide_eq_decide]; omega
    first | (rw [decide_eq_true hl] at h01) | (rw [decide_eq_false hl] at h01)
    go_enter Tryz.func34, Tryz.ntmps34
    go_wp2_with (at_builtin; refine wpList_app rfl _ _ rfl eb (hb.row.alloc _) rfl (Rd.lit _ [_] _ 1 rfl (by unfold maxLen; omega)) rfl (by simp [Value.oneCell']) (by omega) (by unfold maxLen; omega) (by simp; omega) ?_; intro A2 c2' w2 ho2 hg2 hq2; have hobj2 := (hg2.block g (by simp; omega) (fun e => hb.ne e.symm)).trans ((Below.heap_alloc w _ g hglt).trans hb.obj); obtain ⟨d0, d1, d2, d3, d4, e0, e1, e2, e3, e4⟩ := obj_facts hobj2; dsimp only at d0 d1 d2 d4)
    go_ret
    have hne2 : blk A2 ≠ some g := by
      intro e
      rcases hq2 with h1 | h1
      · exact hb.ne (h1.symm.trans e)
      · rw [h1] at e
        simp at e
        omega
    have hlast : ∀ k, blk A2 = some k → blk A = some k ∨ w.heap.size ≤ k := by
      intro k hk
      rcases hq2 with h1 | h1
      · exact .inl (h1.symm.trans hk)
      · rw [h1] at hk
        simp at hk
        exact .inr (by omega)
    have hM := Body.move (n' := n + 1) (c' := c2') (l := got ++ [x]) hobj2 hb.ge (by rw [List.map_append]; exact ho2) hne2
    have hw2 : But (Mine g A) w w2 := (But.of_below ((Below.refl _ _).alloc (Nat.le_refl _) _)).trans (But.of_grown hg2 (S := Mine g A) (fun k hk => .inr hk)) (fun i hi => .inl hi)
    have hw3 := hw2.set (a := ⟨g, 3, none⟩) (.slice A2 (n + 1) c2') (.inl (.inl rfl))
    have hw4 := hw3.set (a := ⟨g, 1, none⟩) (.int .i64 (lf - 1)) (.inl (.inl rfl))
    first
      | exact ⟨rfl, A2, ⟨n + 1, c2', hM.set 1 (.int .i64 (lf - 1)) ⟨_, lf - 1, dg, bd, got ++ [x]⟩ rfl rfl⟩, hw4, hlast⟩
      | exact ⟨rfl, A2, ⟨n + 1, c2', (hM.set 1 (.int .i64 (lf - 1)) ⟨_, lf - 1, dg, bd, got ++ [x]⟩ rfl rfl).set 0 (.int .i64 9) ⟨9, lf - 1, dg, bd, got ++ [x]⟩ rfl rfl⟩, hw4.set (a := ⟨g, 0, none⟩) _ (.inl (.inl rfl)), hlast⟩
      | exact ⟨rfl, A2, ⟨n + 1, c2', (hM.set 1 (.int .i64 (lf - 1)) ⟨_, lf - 1, dg, bd, got ++ [x]⟩ rfl rfl).set 0 (.int .i64 5) ⟨5, lf - 1, dg, bd, got ++ [x]⟩ rfl rfl⟩, hw4.set (a := ⟨g, 0, none⟩) _ (.inl (.inl rfl)), hlast⟩

end Go.Proofs.YtckkmdigmecagaaGreatDoor

/-
  Package chunk: take at a chunk's size.
-/
namespace Go.Proofs.YtckkmdigmecagaaGreatDoor
open Go.RowKit

theorem i64_or_nat (a b : Nat) (ha : a < 9223372036854775808) (hb : b < 9223372036854775808) : bits .or .i64 (a : Int) (b : Int) = ((a ||| b : Nat) : Int) := by
  have hx : a ||| b < 2 ^ 63 := Nat.or_lt_two_pow (by omega) (by omega)
  show IntKind.i64.wrap ((BitVec.ofInt 64 (a : Int) ||| BitVec.ofInt 64 (b : Int)).toNat : Int) = _
  rw [BitVec.toNat_or, ofInt_i64 a ha, ofInt_i64 b hb, IntKind.wrap_i64]
  omega
theorem or16 (a d : Int) (ha0 : 0 ≤ a) (ha : a ≤ 68719476735) (hd0 : 0 ≤ d) (hd : d < 16) : bits .or .i64 (a * 16) d = a * 16 + d := by
  obtain ⟨x, rfl⟩ := Int.eq_ofNat_of_zero_le ha0
  obtain ⟨y, rfl⟩ := Int.eq_ofNat_of_zero_le hd0
  have e : ((x : Int) * 16) = ((x * 16 : Nat) : Int) := by omega
  rw [e, i64_or_nat _ _ (by omega) (by omega)]
  have h := Nat.shiftLeft_add_eq_or_of_lt (i := 4) (b := y) (by omega) x
  rw [Nat.shiftLeft_eq] at h
  rw [show x * 16 = x * 2 ^ 4 by omega, ← h]
  omega
theorem digP_lt (c : Int) : digP c < 16 := by
  unfold digP
  split
  · omega
  · split
    · omega
    · split <;> omega

set_option maxRecDepth 20000 in
set_option maxHeartbeats 2000000 in
theorem take_size {w : World} {base g : Nat} {A : Option Addr} {n c : Nat} {s : St} (hb : Body w base g A n c s) (x : UInt8) (h : s.nx = 2) (hN : Num s) : TakeSpec w base g A s x := by
  obtain ⟨c0, c1, c2, c3, c4, f0, f1, f2, f3, f4⟩ := hb.facts
  obtain ⟨nx, lf, dg, bd, got⟩ := s
  obtain ⟨n1, n2, n3, n4, n5⟩ := hN
  dsimp only at h c0 c1 c2 c4 n1 n2 n3 n4 n5
  subst h
  have F12 := fun W v => far (g := g) (i := 1) (j := 2) (by omega) W v
  unfold TakeSpec
  obtain ⟨d, hd⟩ : ∃ d, digP (x.toNat : Int) = d := ⟨_, rfl⟩
  have hd16 := digP_lt (x.toNat : Int)
  have hD := Lib.hid (digit_any x w)
  rw [hd] at hd16 hD
  by_cases h1 : 0 ≤ d
  · have e1 : max 0 d = d := by omega
    rw [e1, decide_eq_true h1] at hD
    clear e1
    by_cases h2 : dg < 8
    · have e : takeP ⟨2, lf, dg, bd, got⟩ x = (⟨2, lf * 16 + d, dg + 1, bd, got⟩, 0) := by simp [takeP, hd, h1, h2]
      rw [e]
      clear e hd
      have ho := or16 lf d n1 n2 h1 hd16
      have HO := Lib.hid ho
      go_enter Tryz.func34, Tryz.ntmps34
      go_wp2_with (go_at_call 47; refine hD.out.mono ?_; rintro e w1 ⟨rfl, rfl⟩)
      go_ret
      exact ⟨A, n, c, rfl, (hb.set 1 (.int .i64 (lf * 16 + d)) ⟨2, lf * 16 + d, dg, bd, got⟩ rfl rfl).set 2 (.int .i64 (dg + 1)) ⟨2, lf * 16 + d, dg + 1, bd, got⟩ rfl rfl, ((But.refl _ w).set (a := ⟨g, 1, none⟩) _ (.inl (.inl rfl))).set (a := ⟨g, 2, none⟩) _ (.inl (.inl rfl)), fun k hk => .inl hk⟩
    · have h3 : dg = 8 := by omega
      subst h3
      have e : takeP ⟨2, lf, 8, bd, got⟩ x = wantP ⟨2, lf, 8, bd, got⟩ (x.toNat : Int) 13 3 := by simp [takeP]
      rw [e]
      clear e hd
      go_enter Tryz.func34, Tryz.ntmps34
      go_wp2_with (first
        | (go_at_call 47; refine hD.out.mono ?_; rintro e w1 ⟨rfl, rfl⟩)
        | (go_at_call 48; refine (want_any hb (x.toNat : Int) 13 3).mono ?_; rintro e w' ⟨rfl, hb', hw'⟩))
      go_ret
      exact ⟨A, n, c, rfl, hb', hw', fun k hk => .inl hk⟩
  · have e1 : max 0 d = 0 := by omega
    rw [e1, decide_eq_false h1] at hD
    clear e1
    by_cases h2 : dg = 0
    · subst h2
      have e : takeP ⟨2, lf, 0, bd, got⟩ x = (⟨2, lf, 0, bd, got⟩, 4) := by simp [takeP, hd, h1]
      rw [e]
      clear e hd
      go_enter Tryz.func34, Tryz.ntmps34
      go_wp2_with (go_at_call 47; refine hD.out.mono ?_; rintro e w1 ⟨rfl, rfl⟩)
      go_ret
      exact ⟨A, n, c, rfl, hb, But.refl _ _, fun k hk => .inl hk⟩
    · have e : takeP ⟨2, lf, dg, bd, got⟩ x = wantP ⟨2, lf, dg, bd, got⟩ (x.toNat : Int) 13 3 := by simp [takeP, hd, h1, h2]
      rw [e]
      clear e hd
      have h2' : (dg == 0) = false := by simpa using h2
      clear h2
      go_enter Tryz.func34, Tryz.ntmps34
      go_wp2_with (first
        | (go_at_call 47; refine hD.out.mono ?_; rintro e w1 ⟨rfl, rfl⟩)
        | (go_at_call 48; refine (want_any hb (x.toNat : Int) 13 3).mono ?_; rintro e w' ⟨rfl, hb', hw'⟩))
      go_ret
      exact ⟨A, n, c, rfl, hb', hw', fun k hk => .inl hk⟩

end Go.Proofs.YtckkmdigmecagaaGreatDoor

/-
  Package chunk: Feed, Done, Data, Chunked, Sized.
-/
namespace Go.Proofs.YtckkmdigmecagaaGreatDoor
open Go.RowKit

theorem take_any {w : World} {base g : Nat} {A : Option Addr} {n c : Nat} {s : St} (hb : Body w base g A n c s) (x : UInt8) (h1 : 1 ≤ s.nx) (h8 : s.nx ≤ 8) (hN : Num s) : TakeSpec w base g A s x := by
  have h : (s.nx = 1 ∨ s.nx = 4) ∨ s.nx = 2 ∨ s.nx = 3 ∨ (s.nx = 5 ∨ s.nx = 6 ∨ s.nx = 7 ∨ s.nx = 8) := by omega
  rcases h with h | h | h | h
  · exact take_data hb x h hN
  · exact take_size hb x h hN
  · exact take_line hb x h hN
  · exact take_want hb x h

/-! ### The plain walk of Feed -/
/-- Bytes are taken, up to the end or an error: how many, and the state behind them. -/
def feedP : St → List UInt8 → Nat × St
  | s, [] => (0, s)
  | s, x :: l => if s.nx = 9 ∨ s.bd ≠ 0 then (0, s) else ((feedP { (takeP s x).1 with bd := (takeP s x).2 } l).1 + 1, (feedP { (takeP s x).1 with bd := (takeP s x).2 } l).2)
/-- What a body may be. -/
structure Ok (s : St) : Prop where
  nx1 : 1 ≤ s.nx
  nx9 : s.nx ≤ 9
  lf0 : 0 ≤ s.lf
  lf1 : s.lf ≤ 4294967295
  dg0 : 0 ≤ s.dg
  dg8 : s.dg ≤ 8
  len : s.got.length ≤ 4096
  size : s.nx = 2 → s.lf < 16 ^ s.dg.toNat
  data : s.nx = 1 ∨ s.nx = 4 → 1 ≤ s.lf ∧ s.lf + s.got.length ≤ 4096 ∧ s.dg = 0
  ends : s.nx = 5 ∨ s.nx = 6 → s.lf = 0 ∧ s.dg = 0

theorem Ok.num {s : St} (h : Ok s) : Num s := ⟨h.lf0, by have := h.lf1; omega, h.dg0, h.dg8, by have := h.len; omega⟩
theorem pow16 (k : Nat) (h : k ≤ 8) : (16 : Int) ^ k ≤ 4294967296 := by
  have h1 : (16 : Nat) ^ k ≤ 16 ^ 8 := Nat.pow_le_pow_right (by omega) h
  have h2 : (16 : Nat) ^ 8 = 4294967296 := by decide
  have h3 : ((16 : Int) ^ k) = ((16 ^ k : Nat) : Int) := by rw [Int.natCast_pow]; rfl
  rw [h3]
  omega
theorem wantP_ok {s : St} (h : Ok s) (c must nx : Int) (h1 : 1 ≤ nx) (h9 : nx ≤ 9) (h2 : nx = 2 → s.lf = 0 ∧ s.dg = 0) (hd : ¬ (nx = 1 ∨ nx = 4)) (h5 : nx = 5 ∨ nx = 6 → s.lf = 0 ∧ s.dg = 0) (b : Int) : Ok { (wantP s c must nx).1 with bd := b } := by
  unfold wantP
  split
  · exact ⟨h1, h9, h.lf0, h.lf1, h.dg0, h.dg8, h.len, fun e => by obtain ⟨e1, e2⟩ := h2 e; simp [e1, e2], fun e => absurd e hd, h5⟩
  · exact ⟨h.nx1, h.nx9, h.lf0, h.lf1, h.dg0, h.dg8, h.len, h.size, h.data, h.ends⟩
theorem takeP_ok {s : St} (h : Ok s) (x : UInt8) (h9 : s.nx ≠ 9) : Ok { (takeP s x).1 with bd := (takeP s x).2 } := by
  have hd16 := digP_lt (x.toNat : Int)
  have hnx := h.nx1
  have hnx9 := h.nx9
  have hlf0 := h.lf0
  have hlf1 := h.lf1
  have hdg0 := h.dg0
  have hdg8 := h.dg8
  have hlen := h.len
  unfold takeP
  split
  · rename_i h1
    obtain ⟨e1, e2, e3⟩ := h.data h1
    have hn5 : (if 1 < s.lf then s.nx else if s.nx = 1 then 9 else 5) = s.nx ∧ 1 < s.lf ∨ ((if 1 < s.lf then s.nx else if s.nx = 1 then 9 else 5) = (9 : Int) ∧ s.lf = 1) ∨ ((if 1 < s.lf then s.nx else if s.nx = 1 then 9 else 5) = (5 : Int) ∧ s.lf = 1) := by
      by_cases h2 : 1 < s.lf
      · exact .inl ⟨if_pos h2, h2⟩
      · rw [if_neg h2]
        by_cases h3 : s.nx = 1
        · exact .inr (.inl ⟨if_pos h3, by omega⟩)
        · exact .inr (.inr ⟨if_neg h3, by omega⟩)
    generalize (if 1 < s.lf then s.nx else if s.nx = 1 then 9 else 5) = q at hn5 ⊢
    have hl' : (s.got ++ [x]).length = s.got.length + 1 := by simp
    refine ⟨?_, ?_, ?_, ?_, ?_, ?_, ?_, ?_, ?_, ?_⟩ <;> dsimp only <;> try rw [hl']
    all_goals omega
  · split
    · rename_i h0 h2
      split
      · rename_i h3
        obtain ⟨h3, h4⟩ := h3
        have hs := h.size h2
        have hp := pow16 (s.dg.toNat + 1) (by omega)
        have e : (s.dg + 1).toNat = s.dg.toNat + 1 := by omega
        have e2 : (16 : Int) ^ (s.dg.toNat + 1) = 16 ^ s.dg.toNat * 16 := Int.pow_succ ..
        refine ⟨?_, ?_, ?_, ?_, ?_, ?_, ?_, ?_, ?_, ?_⟩ <;> dsimp only
        all_goals first | omega | (intro _; rw [e]; omega)
      · split
        · exact ⟨h.nx1, h.nx9, h.lf0, h.lf1, h.dg0, h.dg8, h.len, h.size, h.data, h.ends⟩
        · exact wantP_ok h _ _ _ (by omega) (by omega) (by omega) (by omega) (by omega) _
    · split
      · split
        · refine ⟨?_, ?_, ?_, ?_, ?_, ?_, ?_, ?_, ?_, ?_⟩ <;> dsimp only <;> omega
        · split
          · refine ⟨?_, ?_, ?_, ?_, ?_, ?_, ?_, ?_, ?_, ?_⟩ <;> dsimp only <;> omega
          · split
            · refine ⟨?_, ?_, ?_, ?_, ?_, ?_, ?_, ?_, ?_, ?_⟩ <;> dsimp only <;> omega
            · refine ⟨?_, ?_, ?_, ?_, ?_, ?_, ?_, ?_, ?_, ?_⟩ <;> dsimp only <;> omega
      · split
        · have := h.ends (by omega)
          exact wantP_ok h _ _ _ (by omega) (by omega) (by omega) (by omega) (by omega) _
        · split
          · have := h.ends (by omega)
            exact wantP_ok h _ _ _ (by omega) (by omega) (by omega) (by omega) (by omega) _
          · split
            · exact wantP_ok h _ _ _ (by omega) (by omega) (by omega) (by omega) (by omega) _
            · split
              · exact wantP_ok h _ _ _ (by omega) (by omega) (by omega) (by omega) (by omega) _
              · exact ⟨h.nx1, h.nx9, h.lf0, h.lf1, h.dg0, h.dg8, h.len, h.size, h.data, h.ends⟩

theorem feedP_drop {s : St} {l : List UInt8} {j : Nat} {x : UInt8} (h : l[j]? = some x) : feedP s (l.drop j) = if s.nx = 9 ∨ s.bd ≠ 0 then (0, s) else ((feedP { (takeP s x).1 with bd := (takeP s x).2 } (l.drop (j + 1))).1 + 1, (feedP { (takeP s x).1 with bd := (takeP s x).2 } (l.drop (j + 1))).2) := by
  obtain ⟨hj, rfl⟩ := List.getElem?_eq_some_iff.1 h
  rw [List.drop_eq_getElem_cons hj, feedP]

end Go.Proofs.YtckkmdigmecagaaGreatDoor

/-
  Package chunk: Feed.
-/
namespace Go.Proofs.YtckkmdigmecagaaGreatDoor
open Go.RowKit

theorem Rd.but {S : Nat → Prop} {w w' : World} {size n c : Nat} {A : Option Addr} {xs : List Value} (h : Rd w size A n c xs) (hb : But S w w') (hS : ∀ k, blk A = some k → ¬ S k) : Rd w' size A n c xs :=
  h.keep fun k hk hlt => hb.block k hlt (hS k hk)
/-- An error empties a body. -/
def finP (s : St) : St := if s.bd = 0 then s else { s with got := [] }
def feedN (s : St) (l : List UInt8) : Int := if (feedP s l).2.bd = 0 then (((feedP s l).1 : Nat) : Int) else 0
theorem feedP_stop {s : St} (h : s.nx = 9 ∨ s.bd ≠ 0) (l : List UInt8) : feedP s l = (0, s) := by
  cases l with
  | nil => rfl
  | cons x l => rw [feedP, if_pos h]

set_option maxRecDepth 20000 in
set_option maxHeartbeats 4000000 in
theorem Feed_any {w : World} {base g : Nat} {A : Option Addr} {n c : Nat} {s : St} (hb : Body w base g A n c s) (hk : Ok s) (B : Option Addr) (m d : Nat) (l : List UInt8) (hl : Rd w 1 B m d (l.map b8)) (hm : m ≤ 1073741824) (hB : ∀ k, blk B = some k → ¬ Mine g A k) :
    Calls Tryz.prog 23 #[.pointer (some ⟨g, 0, none⟩), .slice B m d] w fun e w' => ∃ A' n' c', e = .returned (.tuple #[.int .i64 (feedN s l), .int .i64 (feedP s l).2.bd]) ∧ Body w' base g A' n' c' (finP (feedP s l).2) ∧ But (Mine g A) w w' ∧ ∀ k, blk A' = some k → blk A = some k ∨ w.heap.size ≤ k := by
  obtain ⟨c0, c1, c2, c3, c4, f0, f1, f2, f3, f4⟩ := hb.facts
  have hlen := hl.lenb
  have hnx1 := hk.nx1
  have hz : (s.nx == 0) = false := by simp; omega
  clear c1 c2 c3 f1 f2 f3
  go_enter Tryz.func23, Tryz.ntmps23
  go_wp2_with fail
  go_loopw [6] (fun i wr => ∃ (j : Nat) (A' : Option Addr) (n' c' : Nat) (s' : St), j ≤ m ∧ i = .int .i64 j ∧ Body wr base g A' n' c' s' ∧ Ok s' ∧ But (Mine g A) w wr ∧ (∀ k, blk A' = some k → blk A = some k ∨ w.heap.size ≤ k) ∧ Hid (feedP s l = ((feedP s' (l.drop j)).1 + j, (feedP s' (l.drop j)).2))) (fun i _ => m - (intOf i).toNat)
  case atStart => exact ⟨0, A, n, c, s, by omega, rfl, hb, hk, But.refl _ _, fun k h => .inl h, by simp [Hid]⟩
  case round =>
    obtain ⟨j, A', n', c', s', hj, rfl, hb', hk', hw', hlast, hH⟩ := hrel
    clear c0 c4 f0 f4
    obtain ⟨c0, c1, c2, c3, c4, f0, f1, f2, f3, f4⟩ := hb'.facts
    have hend : (¬ j < m ∨ s'.nx = 9 ∨ s'.bd ≠ 0) → feedP s l = (j, s') := by
      intro h
      rw [hH.out]
      rcases h with h | h
      · rw [List.drop_eq_nil_of_le (by omega)]
        simp [feedP]
      · rw [feedP_stop h]
        simp
    have Hend := Lib.hid hend
    clear hend
    by_cases hgo : j < m ∧ s'.nx ≠ 9 ∧ s'.bd = 0
    · obtain ⟨g1, g2, g3⟩ := hgo
      obtain ⟨x, hx, hidx, hcell, hxb⟩ := (hl.but hw' hB).byteAt eb (j : Int) j (by omega) (by omega)
      have g2' : (s'.nx != 9) = true := by simpa using g2
      have g3' : (s'.bd == 0) = true := by simpa using g3
      have hn1 := hk'.nx1
      have hn9 := hk'.nx9
      have hT := Lib.hid (take_any hb' x hn1 (by omega) hk'.num)
      have hF := Lib.hid (show feedP s' (l.drop j) = _ by rw [feedP_drop hx.out, if_neg (by omega)])
      clear hn1 hn9
      go_wp2_with fail
      refine hT.out.mono ?_
      rintro e w2 ⟨A2, n2, c2', rfl, hb2, hw2, hl2⟩
      have q4 := hb2.facts.2.2.2.2.2.2.2.2.2
      have p4 := hb2.facts.2.2.2.2.1
      have hbb := hb2.set 4 (.int .i64 (takeP s' x).2) { (takeP s' x).1 with bd := (takeP s' x).2 } rfl rfl
      clear c0 c1 c2 c3 c4 f0 f1 f2 f3 f4
      go_wp2_with fail
      go_roundw
      case rel =>
        refine ⟨j + 1, A2, n2, c2', { (takeP s' x).1 with bd := (takeP s' x).2 }, by omega, by go_num, hbb, takeP_ok hk' x g2, (hw'.trans hw2 ?_).set (a := ⟨g, 4, none⟩) _ (.inl (.inl rfl)), ?_, ?_⟩
        · intro i hi
          rcases hi with h1 | h1
          · exact .inl (.inl h1)
          · rcases hlast i h1 with h2 | h2
            · exact .inl (.inr h2)
            · exact .inr h2
        · intro i hi
          rcases hl2 i hi with h1 | h1
          · exact hlast i h1
          · exact .inr (Nat.le_trans hw'.size h1)
        · show _ = _
          rw [hH.out, hF.out]
          simp only [Nat.add_assoc, Nat.add_comm 1 j]
      case measure => simp [intOf]; omega
    · have hF := Hend.out (by omega)
      have HF := Lib.hid hF
      clear hF hH Hend
      have h3 : ¬ j < m ∨ (j < m ∧ (s'.nx != 9) = false) ∨ (j < m ∧ (s'.nx != 9) = true ∧ s'.bd ≠ 0) := by
        by_cases a1 : j < m
        · by_cases a2 : s'.nx = 9
          · exact .inr (.inl ⟨a1, by simpa using a2⟩)
          · exact .inr (.inr ⟨a1, by simpa using a2, fun a3 => hgo ⟨a1, a2, a3⟩⟩)
        · exact .inl a1
      clear hgo
      by_cases hbd : s'.bd = 0
      · have q1 : (s'.bd == 0) = true := by simpa using hbd
        have q2 : (s'.bd != 0) = false := by simpa using hbd
        have HN : Hid (feedN s l = (j : Int)) := by
          show _ = _
          unfold feedN
          rw [HF.out, if_pos hbd]
        have HP : Hid (finP s' = s') := if_pos hbd
        have Hbd := Lib.hid hbd
        clear hbd
        rcases h3 with g1 | ⟨g1, g2⟩ | ⟨g1, g2, g3⟩
        · go_wp2_with fail
          go_ret2
          rw [HN.out, HF.out]
          dsimp only
          rw [HP.out, Hbd.out]
          exact ⟨A', n', c', rfl, hb', hw', hlast⟩
        · go_wp2_with fail
          go_ret2
          rw [HN.out, HF.out]
          dsimp only
          rw [HP.out, Hbd.out]
          exact ⟨A', n', c', rfl, hb', hw', hlast⟩
        · exact absurd Hbd.out g3
      · have q1 : (s'.bd == 0) = false := by simpa using hbd
        have q2 : (s'.bd != 0) = true := by simpa using hbd
        have HN : Hid (feedN s l = 0) := by
          show _ = _
          unfold feedN
          rw [HF.out, if_neg hbd]
        have HP : Hid (finP s' = { s' with got := [] }) := if_neg hbd
        have hnil := Body.move (l := []) hb'.obj hb'.ge (Own.nil_ wr base 5 1) (by simp [blk])
        have F34 := (far (g := g) (i := 3) (j := 4) (by omega) wr (.slice none 0 0)).trans c4
        clear hbd
        rcases h3 with g1 | ⟨g1, g2⟩ | ⟨g1, g2, g3⟩
        all_goals
          go_wp2_with fail
          go_region
          all_goals
            go_wp2_with fail
            go_ret2
            rw [HN.out, HF.out]
            dsimp only
            rw [HP.out]
            exact ⟨none, 0, 0, rfl, hnil.drew, (hw'.set (a := ⟨g, 3, none⟩) _ (.inl (.inl rfl))).drew, fun k hk => by simp [blk] at hk⟩

end Go.Proofs.YtckkmdigmecagaaGreatDoor

/-
  Plain laws on feeding a body: bytes fed in pieces; a sized body.
-/
namespace Go.Proofs.YtckkmdigmecagaaGreatDoor
open Go.RowKit

theorem feedP_append {s' : St} : ∀ (l : List UInt8) (s : St) (x : List UInt8), feedP s l = (l.length, s') → feedP s (l ++ x) = ((feedP s' x).1 + l.length, (feedP s' x).2)
  | [], s, x, h => by
    have e : s = s' := by
      have := congrArg Prod.snd h
      exact this
    subst e
    simp
  | a :: l, s, x, h => by
    rw [feedP] at h
    rw [List.cons_append, feedP]
    split at h
    · have := congrArg Prod.fst h
      simp at this
    · rename_i hn
      rw [if_neg hn]
      have h1 := congrArg Prod.fst h
      have h2 := congrArg Prod.snd h
      simp only [List.length_cons, Nat.add_right_cancel_iff] at h1 h2
      have ih := feedP_append (s' := s') l { (takeP s a).1 with bd := (takeP s a).2 } x (Prod.ext h1 h2)
      rw [ih]
      simp only [List.length_cons, Nat.add_assoc]
theorem feedP_take : ∀ (l : List UInt8) (s : St), feedP s (l.take (feedP s l).1) = feedP s l
  | [], s => rfl
  | a :: l, s => by
    by_cases hn : s.nx = 9 ∨ s.bd ≠ 0
    · rw [feedP_stop hn (a :: l)]
      exact feedP_stop hn _
    · have e : feedP s (a :: l) = ((feedP { (takeP s a).1 with bd := (takeP s a).2 } l).1 + 1, (feedP { (takeP s a).1 with bd := (takeP s a).2 } l).2) := by rw [feedP, if_neg hn]
      rw [e]
      dsimp only
      rw [List.take_succ_cons, feedP, if_neg hn, feedP_take l]
theorem feedP_le : ∀ (l : List UInt8) (s : St), (feedP s l).1 ≤ l.length
  | [], s => Nat.le_refl _
  | a :: l, s => by
    rw [feedP]
    split
    · exact Nat.zero_le _
    · have := feedP_le l { (takeP s a).1 with bd := (takeP s a).2 }
      simpa using this
theorem feedP_all : ∀ (l : List UInt8) (s : St), (feedP s l).2.nx ≠ 9 → (feedP s l).2.bd = 0 → (feedP s l).1 = l.length
  | [], s, _, _ => rfl
  | a :: l, s, h9, hb => by
    rw [feedP] at h9 hb ⊢
    split
    · rename_i hn
      rw [if_pos hn] at h9 hb
      rcases hn with h | h
      · exact absurd h h9
      · exact absurd hb h
    · rename_i hn
      rw [if_neg hn] at h9 hb
      have := feedP_all l _ h9 hb
      simpa using this
theorem feedP_ok : ∀ (l : List UInt8) (s : St), Ok s → Ok (feedP s l).2
  | [], s, h => h
  | a :: l, s, h => by
    rw [feedP]
    split
    · exact h
    · rename_i hn
      exact feedP_ok l _ (takeP_ok h a (fun e => hn (.inl e)))
theorem wantP_err {s : St} {c must nx : Int} (h : (wantP s c must nx).2 ≠ 0) : (wantP s c must nx).1.nx = s.nx := by
  unfold wantP at h ⊢
  split
  · rename_i hc
    rw [if_pos hc] at h
    exact absurd rfl h
  · rfl
theorem takeP_err {s : St} {x : UInt8} (h : (takeP s x).2 ≠ 0) : (takeP s x).1.nx = s.nx := by
  revert h
  unfold takeP
  repeat' split
  all_goals intro h
  all_goals first | exact absurd rfl h | rfl | exact wantP_err h
/-- Behind an error the body is not done. -/
theorem feedP_err : ∀ (l : List UInt8) (s : St), (s.bd ≠ 0 → s.nx ≠ 9) → (feedP s l).2.bd ≠ 0 → (feedP s l).2.nx ≠ 9
  | [], s, h => h
  | a :: l, s, h => by
    rw [feedP]
    split
    · exact h
    · rename_i hn
      refine feedP_err l _ (fun hb => ?_)
      show (takeP s a).1.nx ≠ 9
      rw [takeP_err hb]
      exact fun e => hn (.inl e)

/-! ### A sized body -/
theorem feed_plain : ∀ (l : List UInt8) (n : Nat) (got : List UInt8), 1 ≤ n →
    feedP ⟨1, n, 0, 0, got⟩ l = if l.length < n then (l.length, ⟨1, (n : Int) - (l.length : Nat), 0, 0, got ++ l⟩) else (n, ⟨9, 0, 0, 0, got ++ l.take n⟩)
  | [], n, got, h => by
    rw [if_pos (by simp only [List.length_nil]; omega)]
    simp [feedP]
  | a :: l, n, got, h => by
    have e : takeP ⟨1, n, 0, 0, got⟩ a = (⟨if 1 < (n : Int) then 1 else 9, (n : Int) - 1, 0, 0, got ++ [a]⟩, 0) := by
      unfold takeP
      rw [if_pos (.inl rfl)]
      rfl
    rw [feedP, if_neg (by dsimp only; omega), e]
    dsimp only
    by_cases h1 : 1 < n
    · obtain ⟨m, rfl⟩ : ∃ m, n = m + 1 := ⟨n - 1, by omega⟩
      have e1 : ((m + 1 : Nat) : Int) - 1 = (m : Int) := by omega
      rw [if_pos (by omega), e1, feed_plain l m _ (by omega)]
      by_cases h2 : l.length < m
      · rw [if_pos h2, if_pos (by rw [List.length_cons]; omega)]
        simp only [List.length_cons, List.append_assoc, List.singleton_append, Prod.mk.injEq, true_and, St.mk.injEq, and_true]
        omega
      · rw [if_neg h2, if_neg (by rw [List.length_cons]; omega)]
        simp [List.take_succ_cons]
    · obtain rfl : n = 1 := by omega
      rw [if_neg (by omega), feedP_stop (.inl rfl), if_neg (by rw [List.length_cons]; omega)]
      simp
/-- How a sized body begins. -/
def stN (n : Nat) : St := if n = 0 then ⟨9, 0, 0, 0, []⟩ else ⟨1, n, 0, 0, []⟩
theorem okN (n : Nat) (h : n ≤ 4096) : Ok (stN n) := by
  unfold stN
  split
  · exact ⟨by decide, by decide, by decide, by decide, by decide, by decide, by decide, fun h => absurd h (by decide), fun h => absurd h (by decide), fun _ => by decide⟩
  · refine ⟨by dsimp only; omega, by dsimp only; omega, by dsimp only; omega, by dsimp only; omega, by dsimp only; omega, by dsimp only; omega, by simp, fun h => ?_, fun _ => ⟨by dsimp only; omega, by simp; omega, rfl⟩, fun h => ?_⟩
    · exact absurd h (by simp)
    · exact absurd h (by simp)

end Go.Proofs.YtckkmdigmecagaaGreatDoor

/-
  Package chunk: Done, Data, Chunked, Feed of none; begun; the law ChunkNone.
-/
namespace Go.Proofs.YtckkmdigmecagaaGreatDoor
open Go.RowKit

theorem Clone_any (A : Option Addr) (n c : Nat) (l : List UInt8) (w : World) (h : Rd w 1 A n c (l.map b8)) (hn : n ≤ 1073741824) :
    Calls Tryz.prog 53 #[.slice A n c] w fun e w' => ∃ A' n' c', e = .returned (.slice A' n' c') ∧ Own w' w.heap.size 5 1 A' n' c' (l.map b8) ∧ Below w.heap.size w w' := by
  have hln := h.lenb
  have hE := fun W => Go.run_eql_slice_nil (P := Tryz.prog) W 27 5 A n c Tryz.underlying27
  cases A with
  | none =>
    have h1 := h.nil rfl
    have h2 := h.le
    have hn0 : n = 0 := by omega
    subst hn0
    have hc0 : c = 0 := by omega
    subst hc0
    obtain rfl : l = [] := List.eq_nil_of_length_eq_zero hln
    go_enter Tryz.func53, Tryz.ntmps53
    go_wp2_with fail
    go_ret
    exact ⟨none, 0, 0, rfl, Own.nil_ _ _ _ _, Below.refl _ _⟩
  | some a =>
    go_enter Tryz.func53, Tryz.ntmps53
    go_wp2_with (at_builtin; refine wpList_app rfl _ _ rfl eb (Own.lit _ w.heap.size [] _ 0 rfl (by decide) (Nat.le_refl _)) rfl (h.alloc _) rfl (b8_one _) (by omega) (by unfold maxLen; omega) (by simp) ?_; intro A1 c1 w1 ho1 hg1 hb1; rw [Nat.zero_add, List.nil_append] at ho1)
    go_ret
    exact ⟨A1, n, c1, rfl, ho1, ((Below.refl w.heap.size w).alloc (Nat.le_refl _) _).grown hg1 (by simp) (by intro g hg; simp [blk] at hg; omega)⟩

theorem Data_none (w : World) : Calls Tryz.prog 37 #[.pointer none] w fun e w' => e = .returned (.slice none 0 0) ∧ w = w' := by
  go_enter Tryz.func37, Tryz.ntmps37
  go_wp2_with fail
  go_ret
  exact ⟨rfl, rfl⟩
theorem Data_any {w : World} {base g : Nat} {A : Option Addr} {n c : Nat} {s : St} (hb : Body w base g A n c s) (hn : s.got.length ≤ 1048576) :
    Calls Tryz.prog 37 #[.pointer (some ⟨g, 0, none⟩)] w fun e w' => ∃ A' n' c', e = .returned (.slice A' n' c') ∧ Own w' w.heap.size 5 1 A' n' c' (s.got.map b8) ∧ Below w.heap.size w w' := by
  have c3 := hb.facts.2.2.2.1
  have hln := hb.row.lenb
  have hC := Lib.hid (Clone_any A n c s.got w hb.row.rd (by omega))
  go_enter Tryz.func37, Tryz.ntmps37
  go_wp2_with fail
  refine hC.out.mono ?_
  rintro e w1 ⟨A1, n1, c1, rfl, ho, hbl⟩
  go_wp2_with fail
  go_ret
  exact ⟨A1, n1, c1, rfl, ho, hbl⟩

theorem Done_none (w : World) : Calls Tryz.prog 36 #[.pointer none] w fun e w' => e = .returned (.bool false) ∧ w = w' := by
  go_enter Tryz.func36, Tryz.ntmps36
  go_wp2_with fail
  go_ret
  exact ⟨rfl, rfl⟩
theorem Done_any {w : World} {base g : Nat} {A : Option Addr} {n c : Nat} {s : St} (hb : Body w base g A n c s) :
    Calls Tryz.prog 36 #[.pointer (some ⟨g, 0, none⟩)] w fun e w' => e = .returned (.bool (s.nx == 9)) ∧ w = w' := by
  have c0 := hb.facts.1
  go_enter Tryz.func36, Tryz.ntmps36
  go_wp2_with fail
  go_ret
  exact ⟨rfl, rfl⟩

theorem Feed_none (B : Value) (w : World) : Calls Tryz.prog 23 #[.pointer none, B] w fun e w' => e = .returned (.tuple #[.int .i64 0, .int .i64 1]) ∧ w = w' := by
  go_enter Tryz.func23, Tryz.ntmps23
  go_wp2_with fail
  go_ret2
  exact ⟨rfl, rfl⟩
theorem Feed_zero {w : World} {base g : Nat} {A : Option Addr} {n c : Nat} {s : St} (hb : Body w base g A n c s) (h : s.nx = 0) (B : Value) : Calls Tryz.prog 23 #[.pointer (some ⟨g, 0, none⟩), B] w fun e w' => e = .returned (.tuple #[.int .i64 0, .int .i64 1]) ∧ w = w' := by
  have c0 := hb.facts.1
  rw [h] at c0
  go_enter Tryz.func23, Tryz.ntmps23
  go_wp2_with fail
  go_ret2
  exact ⟨rfl, rfl⟩

theorem heap_new (w : World) (o : Obj) : (w.alloc o).heap[w.heap.size]? = some o := by
  show (w.heap.push o)[w.heap.size]? = some o
  simp
theorem Body.new (w : World) (nx lf dg bd : Int) (base : Nat) (h : base ≤ w.heap.size) : Body (w.alloc (.cells #[.int .i64 nx, .int .i64 lf, .int .i64 dg, .slice none 0 0, .int .i64 bd] 79)) base w.heap.size none 0 0 ⟨nx, lf, dg, bd, []⟩ :=
  ⟨h, heap_new _ _, Own.nil_ _ _ _ _, by simp [blk]⟩
/-- A body in chunks, at its beginning. -/
def st0 : St := ⟨2, 0, 0, 0, []⟩
theorem ok0 : Ok st0 := ⟨by decide, by decide, by decide, by decide, by decide, by decide, by decide, fun _ => by decide, fun h => absurd h (by decide), fun _ => by decide⟩
theorem Chunked_any (w : World) : Calls Tryz.prog 63 #[] w fun e w' => e = .returned (.pointer (some ⟨w.heap.size, 0, none⟩)) ∧ Body w' w.heap.size w.heap.size none 0 0 st0 ∧ Below w.heap.size w w' := by
  have hn := Body.new w 2 0 0 0 w.heap.size (Nat.le_refl _)
  go_enter Tryz.func63, Tryz.ntmps63
  go_wp2_with fail
  go_ret
  exact ⟨rfl, hn, (Below.refl _ _).alloc (Nat.le_refl _) _⟩

end Go.Proofs.YtckkmdigmecagaaGreatDoor
