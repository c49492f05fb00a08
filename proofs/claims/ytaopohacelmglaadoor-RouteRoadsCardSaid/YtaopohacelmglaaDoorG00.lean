/-
  Joined texts of this claim's author (each began as a text of its own; each says itself what it holds).
-/
import Derived.Test.YtaopohacelmglaaDoorRows
import Derived.WalkKit
import Derived.WalkSpells
import Derived.WalkLawsBesides
import Derived.Lib.Hide
import Derived.Deep.AppendLies
import Derived.Deep.Draws
import Derived.Maps.AppendAt
import Derived.Laws.CopyOwn
import Derived.Laws.BytesArg
import Derived.Lib.QuietBelow
set_option linter.unusedVariables false
set_option linter.unusedSimpArgs false

/-
  Words for memory that all proofs of this seat share: a slice that reads as a list of cells, a row that the call owns, what an append, a make, a copy, a conversion leave. No function of the program is named here.
-/
namespace Go.Proofs.YtaopohacelmglaaDoor
open Go.RowKit

/-! ### Addresses -/
theorem block_of_add (a : Addr) (n : Nat) : (a.add n).block = a.block := by unfold Addr.add; split <;> rfl
theorem add_of_add (a : Addr) (i j : Nat) : (a.add i).add j = a.add (i + j) := by
  unfold Addr.add
  by_cases hi : i = 0 <;> by_cases hj : j = 0 <;> simp [hi, hj, Nat.add_assoc]

/-- Place j of the row that A leads to. -/
def at_ (A : Option Addr) (j : Nat) : Addr := (A.getD ⟨0, 0, none⟩).add j
/-- The block that A leads to. -/
def blk (A : Option Addr) : Option Nat := A.map (·.block)
/-- Where a cut at lo begins. -/
def cutA (A : Option Addr) (c lo : Nat) (size : Nat) : Option Addr := if c = lo then A else A.map (·.add (lo * size))

theorem at_some (a : Addr) (j : Nat) : at_ (some a) j = a.add j := rfl
theorem at_block (A : Option Addr) (j g : Nat) (h : blk A = some g) : (at_ A j).block = g := by
  cases A with
  | none => cases h
  | some a => simp only [at_some, block_of_add]; simpa [blk] using h
theorem blk_cutA (A : Option Addr) (c lo size : Nat) : blk (cutA A c lo size) = blk A := by
  unfold cutA blk
  split
  · rfl
  · cases A <;> simp [block_of_add]
theorem at_cutA (A : Option Addr) (c lo size j : Nat) (h : lo < c) (hA : A = none → c = 0) : at_ (cutA A c lo size) j = at_ A (lo * size + j) := by
  unfold cutA
  rw [if_neg (by omega)]
  cases A with
  | none => have := hA rfl; omega
  | some a => simp [at_, add_of_add]

/-- The slice value '.slice A n c' reads as the cells xs. -/
structure Rd (w : World) (size : Nat) (A : Option Addr) (n c : Nat) (xs : List Value) : Prop where
  len : xs.length = n * size
  le : n ≤ c
  max : c ≤ maxLen
  nil : A = none → c = 0
  cell : ∀ j u, xs[j]? = some u → w.cell? (at_ A j) = some u

theorem Rd.keep {w w' : World} {size : Nat} {A : Option Addr} {n c : Nat} {xs : List Value} (h : Rd w size A n c xs)
    (hk : ∀ g, blk A = some g → g < w.heap.size → w'.heap[g]? = w.heap[g]?) : Rd w' size A n c xs :=
  ⟨h.len, h.le, h.max, h.nil, fun j u hu => by
    have hc := h.cell j u hu
    have hlt := World.block_lt_of_cell? w _ hc
    rw [← hc]
    refine World.cell?_of_block ?_
    cases A with
    | none =>
      have hl := h.len
      have h1 := h.nil rfl
      have h2 := h.le
      have hn : n = 0 := by omega
      subst hn
      have : xs = [] := List.eq_nil_of_length_eq_zero (by simpa using hl)
      subst this
      simp at hu
    | some a =>
      have e : (at_ (some a) j).block = a.block := by simp [at_some, block_of_add]
      rw [e] at hlt ⊢
      exact hk a.block rfl hlt⟩
theorem Rd.below {w w' : World} {size : Nat} {A : Option Addr} {n c : Nat} {xs : List Value} (h : Rd w size A n c xs) (hb : Below w.heap.size w w') : Rd w' size A n c xs :=
  h.keep fun g _ hg => hb.block g hg
theorem Rd.belowB {w w' : World} {B size : Nat} {A : Option Addr} {n c : Nat} {xs : List Value} (h : Rd w size A n c xs) (hb : Below B w w') (hA : ∀ g, blk A = some g → g < B) : Rd w' size A n c xs :=
  h.keep fun g hg _ => hb.block g (hA g hg)
theorem Rd.grown {w w' : World} {row : Option Nat} {size : Nat} {A : Option Addr} {n c : Nat} {xs : List Value} (h : Rd w size A n c xs) (hg : w.grownBy w' row) (hne : ∀ g, blk A = some g → row ≠ some g) : Rd w' size A n c xs :=
  h.keep fun g hA hlt => hg.block g hlt (fun e => hne g hA e.symm)
theorem Rd.nil_ (w : World) (size : Nat) : Rd w size none 0 0 [] := ⟨by simp, Nat.le_refl _, Nat.zero_le _, fun _ => rfl, by simp⟩
theorem Rd.cut {w : World} {size : Nat} {A : Option Addr} {n c : Nat} {xs : List Value} (h : Rd w size A n c xs) {lo hi : Nat} (hl : lo ≤ hi) (hh : hi ≤ n) :
    Rd w size (cutA A c lo size) (hi - lo) (c - lo) ((xs.drop (lo * size)).take ((hi - lo) * size)) := by
  have hle := h.le
  refine ⟨?_, by omega, by have := h.max; omega, ?_, fun j u hu => ?_⟩
  · have : hi * size ≤ n * size := Nat.mul_le_mul_right _ hh
    rw [List.length_take, List.length_drop, h.len, Nat.sub_mul]; omega
  · intro e
    unfold cutA at e
    split at e
    · omega
    · have := h.nil (by cases A <;> simp_all); omega
  · rw [List.getElem?_take] at hu
    split at hu
    · rename_i hj
      rw [List.getElem?_drop] at hu
      have : lo < c := by
        have h1 : 0 < hi - lo := by
          rcases Nat.eq_zero_or_pos (hi - lo) with h0 | h0
          · rw [h0] at hj; omega
          · exact h0
        omega
      rw [at_cutA A c lo size j this h.nil]
      exact h.cell _ _ hu
    · cases hu

/-- A row of the call's own: it lies from block 'base' on, and each of its c places may be written. -/
structure Own (w : World) (base : Nat) (e : TypeId) (size : Nat) (A : Option Addr) (n c : Nat) (xs : List Value) : Prop where
  rd : Rd w size A n c xs
  own : ∀ a, A = some a → a.spot = none ∧ base ≤ a.block ∧ ∃ cur fr, w.heap[a.block]? = some (.cells cur e fr) ∧ a.off + c * size ≤ cur.size ∧ ∀ j, a.off ≤ j → j < a.off + c * size → ¬ (fr.1 ≤ j ∧ j < fr.2)

section
variable {w w' : World} {base : Nat} {e : TypeId} {size : Nat} {A : Option Addr} {n c : Nat} {xs : List Value}
theorem Own.lt (h : Own w base e size A n c xs) : ∀ g, blk A = some g → base ≤ g ∧ g < w.heap.size := by
  intro g hg
  cases A with
  | none => cases hg
  | some a =>
    obtain ⟨_, hb, cur, fr, hh, _⟩ := h.own a rfl
    have : a.block = g := by simpa [blk] using hg
    subst this
    refine ⟨hb, ?_⟩
    rcases Nat.lt_or_ge a.block w.heap.size with hlt | hge
    · exact hlt
    · rw [Array.getElem?_eq_none hge] at hh; cases hh
theorem Own.keep (h : Own w base e size A n c xs) (hk : ∀ g, blk A = some g → base ≤ g → g < w.heap.size → w'.heap[g]? = w.heap[g]?) : Own w' base e size A n c xs :=
  ⟨h.rd.keep fun g hg hlt => hk g hg (h.lt g hg).1 hlt, fun a ha => by
    obtain ⟨h1, h2, cur, fr, hh, h3, h4⟩ := h.own a ha
    have hb : blk A = some a.block := by rw [ha]; rfl
    exact ⟨h1, h2, cur, fr, (hk _ hb h2 (h.lt _ hb).2).trans hh, h3, h4⟩⟩
theorem Own.below (h : Own w base e size A n c xs) (hb : Below w.heap.size w w') : Own w' base e size A n c xs := h.keep fun g _ _ hg => hb.block g hg
theorem Own.grown {row : Option Nat} (h : Own w base e size A n c xs) (hg : w.grownBy w' row) (hne : ∀ g, blk A = some g → row ≠ some g) : Own w' base e size A n c xs :=
  h.keep fun g hA _ hlt => hg.block g hlt (fun e => hne g hA e.symm)
theorem Own.nil_ (w : World) (base : Nat) (e : TypeId) (size : Nat) : Own w base e size none 0 0 [] := ⟨Rd.nil_ w size, fun _ h => by cases h⟩
theorem Own.mono (h : Own w base e size A n c xs) {b' : Nat} (hb : b' ≤ base) : Own w b' e size A n c xs :=
  ⟨h.rd, fun a ha => by obtain ⟨h1, h2, r⟩ := h.own a ha; exact ⟨h1, by omega, r⟩⟩
/-- A new block that is a row. -/
theorem Own.new (w : World) (cur : Array Value) (fr : Nat × Nat) (n c : Nat) (xs : List Value) (hb : base ≤ w.heap.size) (hn : n ≤ c) (hc : c ≤ maxLen) (hl : xs.length = n * size) (hs : c * size ≤ cur.size)
    (hx : ∀ (j : Nat) (u : Value), xs[j]? = some u → cur[j]? = some u) (hf : ∀ j, j < c * size → ¬ (fr.1 ≤ j ∧ j < fr.2)) :
    Own (w.alloc (.cells cur e fr)) base e size (some ⟨w.heap.size, 0, none⟩) n c xs := by
  have hh : (w.alloc (.cells cur e fr)).heap[w.heap.size]? = some (.cells cur e fr) := by
    show (w.heap.push (.cells cur e fr))[w.heap.size]? = _
    simp
  refine ⟨⟨hl, hn, hc, (fun h => by cases h), fun j u hu => ?_⟩, fun a ha => ?_⟩
  · rw [at_some]
    have : (⟨w.heap.size, 0, none⟩ : Addr).add j = ⟨w.heap.size, j, none⟩ := by unfold Addr.add; split <;> simp_all
    rw [this]
    simp only [World.cell?, hh]
    simpa using hx j u hu
  · obtain rfl := Option.some.inj ha
    exact ⟨rfl, hb, cur, fr, hh, by simpa using hs, fun j _ h2 => hf j (by simpa using h2)⟩
/-- A cut from the front: the places behind stay writable. -/
theorem Own.cut0 (h : Own w base e size A n c xs) {hi : Nat} (hh : hi ≤ n) : Own w base e size A hi c (xs.take (hi * size)) := by
  have hle := h.rd.le
  refine ⟨⟨?_, by omega, h.rd.max, h.rd.nil, fun j u hu => ?_⟩, h.own⟩
  · have : hi * size ≤ n * size := Nat.mul_le_mul_right _ hh
    rw [List.length_take, h.rd.len]; omega
  · rw [List.getElem?_take] at hu
    split at hu
    · exact h.rd.cell j u hu
    · cases hu
end

/-! ### What runs -/
/-- What is known of a slice type t of elements e. -/
structure ElemT (P : Program) (t e : TypeId) (z : Value) (size bytes : Nat) : Prop where
  und : P.underlying t = some (.slice e)
  info : ∃ i, P.info? e = some i ∧ i.zero = some z ∧ i.size = size ∧ i.bytes = bytes
  zs : z.cells.size = size
  pos : 0 < size

theorem ElemT.of {P : Program} {t e : TypeId} {z : Value} {size bytes : Nat} (h : P.underlying t = some (.slice e)) (hi : (P.info? e).map (fun i => (i.zero, i.size, i.bytes)) = some (some z, size, bytes)) (hz : z.cells.size = size) (hp : 0 < size) : ElemT P t e z size bytes :=
  ⟨h, info_parts hi, hz, hp⟩
theorem ElemT.elem {P : Program} {t e : TypeId} {z : Value} {size bytes : Nat} (h : ElemT P t e z size bytes) : P.elem t = e := by simp [Program.elem, h.und]
theorem ElemT.size {P : Program} {t e : TypeId} {z : Value} {size bytes : Nat} (h : ElemT P t e z size bytes) (w : World) : (sizeOf e).run P w = .ok size w := by
  obtain ⟨i, hi, _, hs, _⟩ := h.info
  simp [sizeOf, typeInfo, hi, hs]

/-- Stores into a row with a mark that lies elsewhere. -/
theorem run_storeCells_fr (P : Program) (g o : Nat) (t : TypeId) (fr : Nat × Nat) : ∀ (vs : List Value) (i : Nat) (cur : Array Value) (w : World), w.heap[g]? = some (.cells cur t fr) → o + i + vs.length ≤ cur.size →
    (∀ j, o + i ≤ j → j < o + i + vs.length → ¬ (fr.1 ≤ j ∧ j < fr.2)) → (∀ v ∈ vs, v.oneCell' = true) →
    (storeCells ⟨g, o, none⟩ vs i).run P w = .ok () (w.setRow g (cur.toList.take (o + i) ++ vs ++ cur.toList.drop (o + i + vs.length)).toArray)
  | [], i, cur, w, hg, _, _, _ => by
    simp only [storeCells, List.append_nil, List.length_nil, Nat.add_zero, List.take_append_drop, Array.toArray_toList]
    rw [setRow_self w g cur t fr hg]
    rfl
  | v :: rest, i, cur, w, hg, hl, hf, h1 => by
    have hi : o + i < cur.size := by simp at hl; omega
    have hadd : (⟨g, o, none⟩ : Addr).add i = ⟨g, o + i, none⟩ := by unfold Addr.add; split <;> simp_all
    have hcell : w.cell? ⟨g, o + i, none⟩ = some cur[o + i] := by simp [World.cell?, hg, hi]
    have hfro : w.frozen? ⟨g, o + i, none⟩ = false := by
      have := hf (o + i) (Nat.le_refl _) (by simp)
      simp only [World.frozen?, hg]
      simpa [Decidable.not_and_iff_or_not] using this
    have hst : (store ((⟨g, o, none⟩ : Addr).add i) v).run P w = .ok () (w.setRow g (cur.setIfInBounds (o + i) v)) := by
      rw [hadd, run_store P w _ v _ (h1 v (by simp)), hcell]
      simp [hfro, setCell_eq_setRow w g (o + i) cur t fr v hg]
    have ih := run_storeCells_fr P g o t fr rest (i + 1) (cur.setIfInBounds (o + i) v) (w.setRow g (cur.setIfInBounds (o + i) v)) (setRow_heap w g cur _ t _ hg) (by simp at hl ⊢; omega) (fun j h1 h2 => hf j (by omega) (by simp at h2 ⊢; omega)) (fun x hx => h1 x (by simp [hx]))
    simp only [storeCells, Sem.run_bind, hst, Result.andThen_ok, ih, setRow_setRow]
    congr 3
    have e := list_seg_step cur.toList (o + i) v rest (by simp at hl ⊢; omega)
    simpa [Array.toList_setIfInBounds, Nat.add_assoc] using e

section
variable {P : Program} {w : World} {base : Nat} {t e t2 ty : TypeId} {z : Value} {size bytes : Nat} {A : Option Addr} {n c : Nat} {xs : List Value}

theorem run_append_own_gen (et : ElemT P t e z size bytes) (ht2 : P.underlying t2 = some .string ∨ ∃ e2, P.underlying t2 = some (.slice e2))
    (h : Own w base e size A n c xs) (x : Value) (m : Nat) (ys : List Value) (hm : ∀ W, (Builtin.lenOf x).run P W = .ok m W)
    (hy : ∀ W : World, (∀ a v, w.cell? a = some v → W.cell? a = some v) → (Builtin.firstCells size m x).run P W = .ok ys.toArray W)
    (hl : ys.length = m * size) (h1 : ∀ u ∈ ys, u.oneCell' = true) (h63 : n + m ≤ maxLen) (hbytes : (n + m) * bytes ≤ 140737488355328) (hbase : base ≤ w.heap.size) :
    ∃ A' c' w', (Builtin.append_ #[t, t2] ty #[.slice A n c, x]).run P w = .ok (.slice A' (n + m) c') w' ∧ Own w' base e size A' (n + m) c' (xs ++ ys) ∧
      w.grownBy w' (blk A) ∧ (blk A' = blk A ∨ blk A' = some w.heap.size) := by
  obtain ⟨i, hi, hz, rfl, rfl⟩ := et.info
  have ht := et.und
  have hzs := et.zs
  have hpos := et.pos
  have hsmall : n + m ≤ 9223372036854775807 := by simp only [maxLen] at h63; omega
  have hlen : (xs ++ ys).length = (n + m) * i.size := by rw [List.length_append, h.rd.len, hl, Nat.add_mul]
  have hle := h.rd.le
  -- whatever grows
  have grown : c < n + m → (Builtin.append_ #[t, t2] ty #[.slice A n c, x]).run P w = .ok (.slice (some ⟨w.heap.size, 0, none⟩) (n + m) (grownCap w (n + m) c e))
      (w.drew.alloc (.cells (xs.toArray ++ ys.toArray ++ Builtin.zeroCells z.cells (grownCap w (n + m) c e - (n + m))) e)) := by
    intro hg
    have hn : ¬ (n + m ≤ c) := by omega
    have h63' : ¬ (9223372036854775807 < (n : Int) + (m : Int)) := by omega
    have hfit := growslice_fits (need := n + m) (old := c) (bytes := i.bytes) hg hbytes
    have h48' : ¬ (281474976710656 < Builtin.nextslicecap (n + m) c * i.bytes) := by omega
    have hf : (Builtin.firstCells i.size m x).run P w.drew = .ok ys.toArray w.drew := hy _ (fun a v hv => by simpa using hv)
    have hfo : (Builtin.firstCells i.size n (.slice A n c)).run P w.drew = .ok xs.toArray w.drew := by
      cases A with
      | none =>
        have : n = 0 := by have := h.rd.nil rfl; omega
        subst this
        have : xs = [] := List.eq_nil_of_length_eq_zero (by simpa using h.rd.len)
        subst this
        exact run_firstCells_none _ _ _ _ _
      | some a => exact run_firstCells_some (P := P) w.drew i.size n a n c xs h.rd.len (fun j v hv => by simpa [at_some] using h.rd.cell j v hv)
    rcases ht2 with ht2 | ⟨e2, ht2⟩
    all_goals
      simp [Builtin.append_, run_underlying ht, run_underlying ht2, sizeOf, typeInfo, zeroValue, hi, hz, hm, hn, h63', h48', Question.forced, hf, hfo, newRow, grownCap]
      congr 2
      apply Array.ext'
      simp
  have grownOwn : c < n + m → Own (w.drew.alloc (.cells (xs.toArray ++ ys.toArray ++ Builtin.zeroCells z.cells (grownCap w (n + m) c e - (n + m))) e)) base e i.size
      (some ⟨w.heap.size, 0, none⟩) (n + m) (grownCap w (n + m) c e) (xs ++ ys) := by
    intro hg
    have hge := grownCap_ge w (n + m) c e
    have hcm : grownCap w (n + m) c e ≤ maxLen := grownCap_le_maxLen w (n + m) c e h63
    refine Own.new w.drew _ (0, 0) (n + m) _ (xs ++ ys) hbase hge hcm hlen ?_ ?_ (fun j _ hj => by omega)
    · simp only [Array.size_append, List.size_toArray, size_zeroCells, hzs, h.rd.len, hl, ← Nat.add_mul]
      refine Nat.mul_le_mul_right _ ?_
      omega
    · intro j u hu
      have hj : j < (xs ++ ys).length := (List.getElem?_eq_some_iff.1 hu).1
      rw [Array.getElem?_append_left (by simpa using hj)]
      simpa using hu
  by_cases hroom : n + m ≤ c
  · rcases A with _ | ⟨g, o, sp⟩
    · have hc0 := h.rd.nil rfl
      have hn0 : n = 0 := by omega
      have hm0 : m = 0 := by omega
      have hx0 : xs = [] := List.eq_nil_of_length_eq_zero (by rw [h.rd.len, hn0]; simp)
      have hy0 : ys = [] := List.eq_nil_of_length_eq_zero (by rw [hl, hm0]; simp)
      subst hc0; subst hn0; subst hm0; subst hx0; subst hy0
      have hf := hy w (fun _ _ hv => hv)
      refine ⟨none, 0, w, ?_, by simpa using Own.nil_ w base e i.size, World.grownBy.refl w _, .inl rfl⟩
      rcases ht2 with ht2 | ⟨e2, ht2⟩
      all_goals
        simp [Builtin.append_, run_underlying ht, run_underlying ht2, sizeOf, typeInfo, hi, hm, hf]
    · obtain ⟨hsp, hb, cur, fr, hh, hs, hfr⟩ := h.own _ rfl
      dsimp only at hsp hb hh hs hfr
      subst hsp
      have hf := hy w (fun _ _ hv => hv)
      have hadd : (⟨g, o, none⟩ : Addr).add (n * i.size) = ⟨g, o + n * i.size, none⟩ := by unfold Addr.add; split <;> simp_all
      have hmul : (n + m) * i.size ≤ c * i.size := Nat.mul_le_mul_right _ hroom
      have hnm : (n + m) * i.size = n * i.size + m * i.size := Nat.add_mul _ _ _
      have hst := run_storeCells_fr P g (o + n * i.size) e fr ys 0 cur w hh (by rw [hl]; omega) (fun j h1 h2 => hfr j (by omega) (by rw [hl] at h2; omega)) h1
      simp only [Nat.add_zero] at hst
      refine ⟨some ⟨g, o, none⟩, c, w.setRow g (cur.toList.take (o + n * i.size) ++ ys ++ cur.toList.drop (o + n * i.size + ys.length)).toArray, ?_, ?_, ⟨rfl, rfl, rfl, by simp, fun k _ hk => setRow_other w g k _ (fun e => hk (by simp [blk, e]))⟩, .inl rfl⟩
      rotate_left
      · refine ⟨⟨hlen, hroom, h.rd.max, (fun e => by cases e), fun j u hu => ?_⟩, fun a ha => ?_⟩
        · rw [at_some]
          have haj : (⟨g, o, none⟩ : Addr).add j = ⟨g, o + j, none⟩ := by unfold Addr.add; split <;> simp_all
          rw [haj, cell_setRow_same w g _ cur _ e fr hh]
          have hjl : j < (xs ++ ys).length := (List.getElem?_eq_some_iff.1 hu).1
          rw [hlen] at hjl
          have hold : ∀ j u, xs[j]? = some u → cur[o + j]? = some u := by
            intro j u hu
            have := h.rd.cell j u hu
            rw [at_some] at this
            have haj : (⟨g, o, none⟩ : Addr).add j = ⟨g, o + j, none⟩ := by unfold Addr.add; split <;> simp_all
            rw [haj] at this
            simpa [World.cell?, hh] using this
          simp only [List.getElem?_toArray]
          rw [List.append_assoc]
          by_cases hjn : j < n * i.size
          · rw [List.getElem?_append_left (by rw [List.length_take, Array.length_toList]; omega), List.getElem?_take, if_pos (by omega)]
            rw [List.getElem?_append_left (by rw [h.rd.len]; exact hjn)] at hu
            simpa using hold j u hu
          · have hlt : (cur.toList.take (o + n * i.size)).length = o + n * i.size := by rw [List.length_take, Array.length_toList]; omega
            rw [List.getElem?_append_right (by rw [hlt]; omega), hlt, List.getElem?_append_left (by rw [hl]; omega)]
            rw [List.getElem?_append_right (by rw [h.rd.len]; omega), h.rd.len] at hu
            rw [← hu]
            congr 1
            omega
        · obtain rfl := Option.some.inj ha
          refine ⟨rfl, hb, _, fr, setRow_heap w g cur _ e fr hh, ?_, hfr⟩
          simp only [List.size_toArray, List.length_append, List.length_take, List.length_drop, Array.length_toList, hl]
          omega
      · rcases ht2 with ht2 | ⟨e2, ht2⟩
        all_goals
          simp [Builtin.append_, run_underlying ht, run_underlying ht2, sizeOf, typeInfo, hi, hm, hroom, hf, hadd, hst]
  · refine ⟨_, _, _, grown (by omega), grownOwn (by omega), ⟨rfl, rfl, rfl, by simp, fun k hk _ => Below.heap_alloc w.drew _ k hk⟩, .inr rfl⟩
end

/-! ### The same as steps of a walk -/
theorem Rd.lit (w : World) (l : List Value) (e : TypeId) (n : Nat) (hn : l.length = n) (hm : n ≤ maxLen) : Rd (w.alloc (.cells l.toArray e)) 1 (some ⟨w.heap.size, 0, none⟩) n n l :=
  (Own.new (base := 0) (e := e) (size := 1) w l.toArray (0, 0) n n l (Nat.zero_le _) (Nat.le_refl _) hm (by omega) (by simp; omega) (by simp) (fun j _ h => by omega)).rd

theorem Own.lit (w : World) (base : Nat) (l : List Value) (e : TypeId) (n : Nat) (hn : l.length = n) (hm : n ≤ maxLen) (hb : base ≤ w.heap.size) : Own (w.alloc (.cells l.toArray e)) base e 1 (some ⟨w.heap.size, 0, none⟩) n n l :=
  Own.new (base := base) (e := e) (size := 1) w l.toArray (0, 0) n n l hb (Nat.le_refl _) hm (by omega) (by simp; omega) (by simp) (fun j _ h => by omega)
/-- A place of a row of the call's own may be written. -/
theorem Own.free {w : World} {base : Nat} {e : TypeId} {n c : Nat} {A : Option Addr} {xs : List Value} (h : Own w base e 1 A n c xs) {k : Nat} (hk : k < c) : w.frozen? (at_ A k) = false := by
  cases A with
  | none => have := h.rd.nil rfl; omega
  | some a =>
    obtain ⟨h1, _, cur, fr, hh, _, hf⟩ := h.own a rfl
    obtain ⟨b, o, sp⟩ := a
    dsimp only at h1 hh hf
    subst h1
    have e1 : at_ (some ⟨b, o, none⟩) k = ⟨b, o + k, none⟩ := by rw [at_some]; unfold Addr.add; split <;> simp_all
    rw [e1]
    have := hf (o + k) (by omega) (by omega)
    simp only [World.frozen?, hh]
    simpa [Decidable.not_and_iff_or_not] using this
/-- A store into a place of the row. -/
theorem Own.store {w : World} {base : Nat} {e : TypeId} {n c : Nat} {A : Option Addr} {xs : List Value} (h : Own w base e 1 A n c xs) {k : Nat} (hk : k < c) (u : Value) : Own (w.setCell (at_ A k) u) base e 1 A n c (xs.set k u) := by
  cases A with
  | none => have := h.rd.nil rfl; omega
  | some a =>
    obtain ⟨h1, hb, cur, fr, hh, hs, hf⟩ := h.own a rfl
    obtain ⟨b, o, sp⟩ := a
    dsimp only at h1 hb hh hs hf
    subst h1
    have e1 : ∀ j, at_ (some ⟨b, o, none⟩) j = ⟨b, o + j, none⟩ := by intro j; rw [at_some]; unfold Addr.add; split <;> simp_all
    rw [e1]
    have hh' : (w.setCell ⟨b, o + k, none⟩ u).heap[b]? = some (.cells (cur.setIfInBounds (o + k) u) e fr) := by
      rw [setCell_eq_setRow w b (o + k) cur e fr u hh]
      exact setRow_heap w b cur _ e fr hh
    refine ⟨⟨by simpa using h.rd.len, h.rd.le, h.rd.max, h.rd.nil, fun j v hv => ?_⟩, fun a ha => ?_⟩
    · rw [e1]
      simp only [World.cell?, hh']
      have hold : ∀ j v, xs[j]? = some v → cur[o + j]? = some v := by
        intro j v hv
        have := h.rd.cell j v hv
        rw [e1] at this
        simpa [World.cell?, hh] using this
      rw [List.getElem?_set] at hv
      by_cases hjk : k = j
      · subst hjk
        rw [if_pos rfl] at hv
        split at hv
        · have hsz : o + k < cur.size := by omega
          simp only [Option.some.injEq] at hv
          subst hv
          simp [hsz]
        · cases hv
      · rw [if_neg hjk] at hv
        have := hold j v hv
        have hne : ¬ o + k = o + j := by omega
        rw [show (cur.setIfInBounds (o + k) u)[o + j]? = cur[o + j]? from by rw [Array.getElem?_setIfInBounds, if_neg hne]]
        simpa using this
    · obtain rfl := Option.some.inj ha
      exact ⟨rfl, hb, _, fr, hh', by simpa using hs, hf⟩
theorem below_store {w0 w : World} {B : Nat} {e : TypeId} {n c : Nat} {A : Option Addr} {xs : List Value} (hb : Below B w0 w) (h : Own w B e 1 A n c xs) {k : Nat} (hk : k < c) (u : Value) : Below B w0 (w.setCell (at_ A k) u) := by
  cases A with
  | none => have := h.rd.nil rfl; omega
  | some a => exact hb.setCell (by rw [at_some, block_of_add]; exact (h.own a rfl).2.1) u
theorem Rd.lt {w : World} {size n c : Nat} {A : Option Addr} {xs : List Value} (h : Rd w size A n c xs) {k : Nat} (hk : k < xs.length) : ∃ a, A = some a ∧ a.block < w.heap.size := by
  have hc := h.cell k _ (List.getElem?_eq_getElem hk)
  have hlt := World.block_lt_of_cell? w _ hc
  cases A with
  | none =>
    have := h.nil rfl
    have := h.le
    have hn : n = 0 := by omega
    have := h.len
    rw [hn] at this
    omega
  | some a => exact ⟨a, rfl, by simpa [at_some, block_of_add] using hlt⟩

section
variable {P : Program} {w w0 : World} {base B : Nat} {t e t2 ty : TypeId} {z : Value} {size bytes : Nat} {A : Option Addr} {n c : Nat} {xs : List Value}
variable {ops : Array Oper} {rest : List Oper} {o : Oper} {a : Act} {Q : Exit → Act → World → Prop}

theorem Own.alloc (h : Own w base e size A n c xs) (ob : Obj) : Own (w.alloc ob) base e size A n c xs := h.keep fun g _ _ hg => Below.heap_alloc w ob g hg
theorem Rd.alloc (h : Rd w size A n c xs) (ob : Obj) : Rd (w.alloc ob) size A n c xs := h.keep fun g _ hg => Below.heap_alloc w ob g hg
/-- Behind an append onto a row of the call's own. -/
theorem below_own (hb : Below B w0 w) {row : Option Nat} {w' : World} (hg : w.grownBy w' row) (hr : ∀ g, row = some g → B ≤ g) (hB : B ≤ w.heap.size) : Below B w0 w' := hb.grown hg hB hr

theorem wpList_app (hgd : o.guard = none) (s x : Operand) (ho : o.op = .call { callee := .builtin .append, args := #[s, x], argTypes := #[t, t] })
    (et : ElemT P t e z size bytes) (h : Own w base e size A n c xs) (hs : a.eval s = .slice A n c)
    {A2 : Option Addr} {m c2 : Nat} {ys : List Value} (hr : Rd w size A2 m c2 ys) (hx : a.eval x = .slice A2 m c2) (h1 : ∀ u ∈ ys, u.oneCell' = true) (hbytes : (n + m) * bytes ≤ 140737488355328) (hlen : n + m ≤ maxLen) (hbase : base ≤ w.heap.size)
    (k : ∀ A' c' w', Own w' base e size A' (n + m) c' (xs ++ ys) → w.grownBy w' (blk A) → (blk A' = blk A ∨ blk A' = some w.heap.size) → wpList P ops Q rest (a.put o.dst (.slice A' (n + m) c')) w') :
    wpList P ops Q (o :: rest) a w := by
  refine wpList_plain hgd fun K hK => ?_
  have hm : ∀ W, (Builtin.lenOf (.slice A2 m c2)).run P W = .ok m W := fun W => by simp [Builtin.lenOf]
  have hy : ∀ W : World, (∀ a v, w.cell? a = some v → W.cell? a = some v) → (Builtin.firstCells size m (.slice A2 m c2)).run P W = .ok ys.toArray W := by
    intro W hW
    cases A2 with
    | none =>
      have : m = 0 := by have := hr.nil rfl; have := hr.le; omega
      subst this
      have : ys = [] := List.eq_nil_of_length_eq_zero (by simpa using hr.len)
      subst this
      exact run_firstCells_none _ _ _ _ _
    | some ad => exact run_firstCells_some (P := P) W size m ad m c2 ys hr.len (fun j v hv => hW _ _ (hr.cell j v hv))
  obtain ⟨A', c', w', hrun, r1, r2, r3⟩ := run_append_own_gen (P := P) (ty := o.type) et (.inr ⟨_, et.und⟩) h _ m ys hm hy hr.len h1 hlen hbytes hbase
  unfold Oper.wp execOp
  simp only [ho, resolve, invoke, builtin, Sem.run_bind, Sem.run_pure, Result.andThen_ok, List.map_toArray, List.map_cons, List.map_nil, hs, hx, hrun]
  exact hK _ _ (k A' c' w' r1 r2 r3)

/-- The bytes of a string, appended. -/
theorem wpList_app_str (hgd : o.guard = none) (s x : Operand) (ho : o.op = .call { callee := .builtin .append, args := #[s, x], argTypes := #[t, t2] })
    (et : ElemT P t e z 1 1) (ht2 : P.underlying t2 = some .string) (h : Own w base e 1 A n c xs) (hs : a.eval s = .slice A n c)
    (b : ByteArray) (hx : a.eval x = .string b) (hbytes : n + b.size ≤ 140737488355328) (hbase : base ≤ w.heap.size)
    (k : ∀ A' c' w', Own w' base e 1 A' (n + b.size) c' (xs ++ b.data.toList.map fun b => .int .u8 (b.toNat : Int)) → w.grownBy w' (blk A) → (blk A' = blk A ∨ blk A' = some w.heap.size) → wpList P ops Q rest (a.put o.dst (.slice A' (n + b.size) c')) w') :
    wpList P ops Q (o :: rest) a w := by
  refine wpList_plain hgd fun K hK => ?_
  have hm : ∀ W, (Builtin.lenOf (.string b)).run P W = .ok b.size W := fun W => by simp [Builtin.lenOf]
  have hy : ∀ W : World, (∀ a v, w.cell? a = some v → W.cell? a = some v) → (Builtin.firstCells 1 b.size (.string b)).run P W = .ok (b.data.toList.map fun b => Value.int .u8 (b.toNat : Int)).toArray W := by
    intro W _
    have e : Array.map (fun b : UInt8 => Value.int .u8 (b.toNat : Int)) b.data = (b.data.toList.map fun b => Value.int .u8 (b.toNat : Int)).toArray := by
      apply Array.ext'
      simp
    simp [Builtin.firstCells, e]
  obtain ⟨A', c', w', hrun, r1, r2, r3⟩ := run_append_own_gen (P := P) (ty := o.type) et (.inl ht2) h _ b.size _ hm hy (by rw [List.length_map, Nat.mul_one]; rfl) (by intro u hu; obtain ⟨_, _, rfl⟩ := List.mem_map.1 hu; rfl) (by simp only [maxLen]; omega) (by omega) hbase
  unfold Oper.wp execOp
  simp only [ho, resolve, invoke, builtin, Sem.run_bind, Sem.run_pure, Result.andThen_ok, List.map_toArray, List.map_cons, List.map_nil, hs, hx, hrun]
  exact hK _ _ (k A' c' w' r1 r2 r3)

/-- make([]T, n, c). -/
theorem wpList_mk (hgd : o.guard = none) (l d : Operand) (ho : o.op = Op.makeSlice t l d) (et : ElemT P t e z size bytes) {kl kc : IntKind} {L C : Int} (hl : a.eval l = .int kl L) (hc : a.eval d = .int kc C)
    (n c : Nat) (hL : L = n) (hC : C = c) (hnc : n ≤ c) (hb : c * bytes ≤ 140737488355328) (hm : c ≤ maxLen) (hbase : base ≤ w.heap.size)
    (k : ∀ w', Own w' base e size (some ⟨w.heap.size, 0, none⟩) n c (madeCells z.cells (n * size)).toList → w.grownBy w' none → w'.heap.size = w.heap.size + 1 → wpList P ops Q rest (a.put o.dst (.slice (some ⟨w.heap.size, 0, none⟩) n c)) w') :
    wpList P ops Q (o :: rest) a w := by
  refine wpList_plain hgd fun K hK => ?_
  obtain ⟨i, hi, hz, rfl, rfl⟩ := et.info
  subst hL
  subst hC
  have hr := run_make (P := P) w t e i z et.und hi hz kl kc (n : Int) (c : Int) (by omega) (by omega) (by
    have h : ((i.bytes * c : Nat) : Int) ≤ 281474976710656 := by rw [Nat.mul_comm]; omega
    rwa [Int.natCast_mul] at h) (by simp only [maxLen] at hm; omega)
  simp only [Int.toNat_natCast] at hr
  unfold Oper.wp
  simp [execOp, ho, hl, hc, hr, Result.andThen]
  refine hK _ _ (k _ ?_ ⟨rfl, rfl, rfl, by simp, fun g hg _ => Below.heap_alloc _ _ _ hg⟩ (by simp))
  refine Own.new w _ (0, 0) n c _ hbase hnc hm (by simp [size_madeCells]) (by simp [size_madeCells]) (fun j u hu => ?_) (fun j _ h => by omega)
  have hj : j < n * i.size := by
    have := (List.getElem?_eq_some_iff.1 hu).1
    simpa [size_madeCells] using this
  have hjc : j < c * i.size := Nat.lt_of_lt_of_le hj (Nat.mul_le_mul_right _ hnc)
  simp only [madeCells, Array.getElem?_toList, Array.getElem?_map, Array.getElem?_range, hj, hjc, if_true] at hu ⊢
  exact hu
end

/-- Behind 'append(out, x)' of one new value: the block of the value, then the append. -/
theorem below_app {w0 w w' : World} {B : Nat} {e : TypeId} {size n c : Nat} {A : Option Addr} {xs : List Value} {ob : Obj} (hb : Below B w0 w) (hB : B ≤ w0.heap.size) (ho : Own w B e size A n c xs) (hg : (w.alloc ob).grownBy w' (blk A)) : Below B w0 w' :=
  (hb.alloc (Nat.le_trans hB hb.size) ob).grown hg (by have := hb.size; simp; omega) (fun g h => (ho.lt g h).1)
/-- Behind 'append(out, xs...)'. -/
theorem below_apps {w0 w w' : World} {B : Nat} {e : TypeId} {size n c : Nat} {A : Option Addr} {xs : List Value} (hb : Below B w0 w) (hB : B ≤ w0.heap.size) (ho : Own w B e size A n c xs) (hg : w.grownBy w' (blk A)) : Below B w0 w' :=
  hb.grown hg (Nat.le_trans hB hb.size) (fun g h => (ho.lt g h).1)

/-! ### Bytes -/
/-- A byte as a cell. -/
def b8 (x : UInt8) : Value := .int .u8 (x.toNat : Int)
theorem b8_one (l : List UInt8) : ∀ u ∈ l.map b8, u.oneCell' = true := by
  intro u hu
  obtain ⟨_, _, rfl⟩ := List.mem_map.1 hu
  rfl
theorem b8_ofNat (n : Nat) : b8 (UInt8.ofNat n) = .int .u8 ((n % 256 : Nat) : Int) := by simp [b8]

section
variable {P : Program} {w : World} {t e : TypeId} {z : Value} {size bytes : Nat} {A : Option Addr} {n c : Nat} {xs : List Value} {l : List UInt8}
/-- An element's address. -/
theorem run_index_rd (et : ElemT P t e z size bytes) (hnil : A = none → c = 0) (hnc : n ≤ c) (k : Nat) (hk : k < n) (W : World) :
    (Instr.indexAt t (.slice A n c) (.int .i64 (k : Int))).run P W = .ok (.pointer (some (at_ A (k * size)))) W := by
  cases A with
  | none => have := hnil rfl; omega
  | some a =>
    rw [run_indexAt_slice (h := by rw [et.elem]; exact et.und), if_pos (by omega), et.elem, et.size]
    simp [at_some]
theorem Rd.byte (h : Rd w 1 A n c (l.map b8)) (et : ElemT P t e z 1 bytes) {k : Nat} (hk : k < n) :
    ∃ x, Hid (l[k]? = some x) ∧ (∀ W, (Instr.indexAt t (.slice A n c) (.int .i64 (k : Int))).run P W = .ok (.pointer (some (at_ A k))) W) ∧
      w.cell? (at_ A k) = some (.int .u8 (x.toNat : Int)) ∧ (x.toNat : Int) ≤ 255 := by
  have hl := h.len
  simp only [List.length_map, Nat.mul_one] at hl
  have hkl : k < l.length := by omega
  refine ⟨l[k], List.getElem?_eq_getElem hkl, fun W => by simpa using run_index_rd et h.nil h.le k hk W, h.cell k _ ?_, ?_⟩
  · rw [List.getElem?_map, List.getElem?_eq_getElem hkl]; rfl
  · have := l[k].toNat_lt; omega
theorem Rd.byteAt (h : Rd w 1 A n c (l.map b8)) (et : ElemT P t e z 1 bytes) (J : Int) (k : Nat) (hJ : J = k) (hk : k < n) :
    ∃ x, Hid (l[k]? = some x) ∧ (∀ W, (Instr.indexAt t (.slice A n c) (.int .i64 J)).run P W = .ok (.pointer (some (at_ A k))) W) ∧
      w.cell? (at_ A k) = some (.int .u8 (x.toNat : Int)) ∧ (x.toNat : Int) ≤ 255 := by
  subst hJ
  exact h.byte et hk
theorem Rd.lenb (h : Rd w 1 A n c (l.map b8)) : l.length = n := by simpa using h.len
theorem Own.lenb {base : Nat} (h : Own w base e 1 A n c (l.map b8)) : l.length = n := h.rd.lenb
theorem run_slice_lh_rd (et : ElemT P t e z size bytes) {kl kh : IntKind} (lo hi : Nat) {L H : Int} (hL : L = lo) (hH : H = hi) (h1 : lo ≤ hi) (h2 : hi ≤ c) (W : World) :
    (Instr.sliceAt t (.slice A n c) (some (.int kl L)) (some (.int kh H)) none).run P W = .ok (.slice (cutA A c lo size) (hi - lo) (c - lo)) W := by
  subst hL
  subst hH
  have hu : P.underlying t = some (.slice (P.elem t)) := by rw [et.elem]; exact et.und
  rw [run_sliceAt_slice (h := hu), run_slice_lh (ht := hu) (h0 := by omega) (h1 := by omega) (h2 := by omega), et.elem, et.size]
  simp [sliced, cutA]
theorem run_slice_l_rd (et : ElemT P t e z size bytes) {kl : IntKind} (lo : Nat) {L : Int} (hL : L = lo) (h1 : lo ≤ n) (W : World) :
    (Instr.sliceAt t (.slice A n c) (some (.int kl L)) none none).run P W = .ok (.slice (cutA A c lo size) (n - lo) (c - lo)) W := by
  subst hL
  have hu : P.underlying t = some (.slice (P.elem t)) := by rw [et.elem]; exact et.und
  rw [run_sliceAt_slice (h := hu), run_slice_l (ht := hu) (h0 := by omega) (h1 := by omega), et.elem, et.size]
  simp [sliced, cutA]
theorem run_slice_h_rd (et : ElemT P t e z size bytes) {kh : IntKind} (hi : Nat) {H : Int} (hH : H = hi) (h2 : hi ≤ c) (W : World) :
    (Instr.sliceAt t (.slice A n c) none (some (.int kh H)) none).run P W = .ok (.slice A hi c) W := by
  subst hH
  have hu : P.underlying t = some (.slice (P.elem t)) := by rw [et.elem]; exact et.und
  rw [run_sliceAt_slice (h := hu), run_slice_h (ht := hu) (h0 := by omega) (h2 := by omega), et.elem, et.size]
  have ha : A.map (fun x => x.add (0 * size)) = A := by cases A <;> simp [Addr.add]
  simp only [Result.andThen, sliced, ha, ite_self, Nat.sub_zero, Int.toNat_natCast]
/-- string(b). -/
theorem run_str_rd (et : ElemT P t e z 1 bytes) (he : P.underlying e = some (.int .u8)) {dst : TypeId} (hd : P.underlying dst = some .string) (h : Rd w 1 A n c (l.map b8)) :
    (convert t dst (.slice A n c)).run P w = .ok (.string ⟨l.toArray⟩) w := by
  have hl := h.lenb
  subst hl
  cases A with
  | none =>
    have : l = [] := by
      have := h.nil rfl
      have := h.le
      exact List.eq_nil_of_length_eq_zero (by omega)
    subst this
    exact run_convert_bytes_nil w t e et.und he 0 c dst hd
  | some a =>
    refine run_convert_bytes_back w t dst e a c l et.und he hd (fun j hj => ?_)
    have := h.cell j (b8 l[j]) (by rw [List.getElem?_map, List.getElem?_eq_getElem hj]; rfl)
    exact this
end


section
variable {P : Program} {w : World} {base : Nat} {t e : TypeId} {z : Value} {bytes : Nat} {A A2 : Option Addr} {n c m c2 : Nat} {xs ys : List Value}
variable {ops : Array Oper} {rest : List Oper} {o : Oper} {a : Act} {Q : Exit → Act → World → Prop}
/-- A row of cells written into a row of the call's own, from its beginning. -/
theorem Own.storeAll (h : Own w base e 1 A n c xs) (cs : List Value) (hcs : cs.length ≤ n) (g o : Nat) (hA : A = some ⟨g, o, none⟩) {cur : Array Value} {fr : Nat × Nat} (hh : w.heap[g]? = some (.cells cur e fr)) :
    Own (w.setRow g (cur.toList.take o ++ cs ++ cur.toList.drop (o + cs.length)).toArray) base e 1 A n c (cs ++ xs.drop cs.length) := by
  subst hA
  obtain ⟨_, hb, cur', fr', hh', hs, hf⟩ := h.own _ rfl
  dsimp only at hb hh' hs hf
  rw [hh] at hh'
  obtain ⟨rfl, _, rfl⟩ : cur = cur' ∧ e = e ∧ fr = fr' := by
    have := Option.some.inj hh'
    injection this with h1 _ h2
    exact ⟨h1, rfl, h2⟩
  have hl := h.rd.len
  have hle := h.rd.le
  have hsz : (cur.toList.take o ++ cs ++ cur.toList.drop (o + cs.length)).length = cur.size := by
    simp only [List.length_append, List.length_take, List.length_drop, Array.length_toList]
    omega
  refine ⟨⟨by simp; omega, hle, h.rd.max, h.rd.nil, fun j u hu => ?_⟩, fun a ha => ?_⟩
  · have e1 : at_ (some ⟨g, o, none⟩) j = ⟨g, o + j, none⟩ := by rw [at_some]; unfold Addr.add; split <;> simp_all
    rw [e1, cell_setRow_same w g _ cur _ e fr hh]
    simp only [List.getElem?_toArray]
    have ht : (cur.toList.take o).length = o := by rw [List.length_take, Array.length_toList]; omega
    rw [List.append_assoc, List.getElem?_append_right (by rw [ht]; omega), ht, Nat.add_sub_cancel_left]
    by_cases hj : j < cs.length
    · rw [List.getElem?_append_left hj] at hu ⊢
      exact hu
    · rw [List.getElem?_append_right (by omega)] at hu ⊢
      rw [List.getElem?_drop] at hu ⊢
      have e2 : cs.length + (j - cs.length) = j := by omega
      rw [e2] at hu
      have := h.rd.cell j u hu
      rw [e1] at this
      have e3 : o + cs.length + (j - cs.length) = o + j := by omega
      rw [e3]
      simpa [World.cell?, hh] using this
  · obtain rfl := Option.some.inj ha
    exact ⟨rfl, hb, _, fr, setRow_heap w g cur _ e fr hh, by rw [List.size_toArray, hsz]; simpa using hs, hf⟩

/-- copy(dst, src). -/
theorem wpList_cp (hgd : o.guard = none) (d s : Operand) (ho : o.op = .call { callee := .builtin .copy, args := #[d, s], argTypes := #[t, t] }) (et : ElemT P t e z 1 bytes)
    (h : Own w base e 1 A n c xs) (hd : a.eval d = .slice A n c) (hr : Rd w 1 A2 m c2 ys) (hs : a.eval s = .slice A2 m c2) (h1 : ∀ u ∈ ys, u.oneCell' = true)
    (k : ∀ w', Own w' base e 1 A n c (ys.take n ++ xs.drop (min m n)) → w.grownBy w' (blk A) → w'.heap.size = w.heap.size → wpList P ops Q rest (a.put o.dst (.int .i64 (min m n : Nat))) w') :
    wpList P ops Q (o :: rest) a w := by
  refine wpList_plain hgd fun K hK => ?_
  obtain ⟨i, hi, _, hs1, _⟩ := et.info
  have hsz : (P.info? e).map (·.size) = some 1 := by rw [hi]; simp [hs1]
  have hyl : ys.length = m := by simpa using hr.len
  by_cases h0 : Nat.min m n = 0
  · have hrun := run_copy_none (P := P) w t t o.type e A A2 n c m c2 et.und hsz h0
    unfold Oper.wp
    simp [execOp, ho, resolve, invoke, builtin, hd, hs, hrun, Result.andThen]
    have h0' : min m n = 0 := h0
    have hk := k w ?_ (World.grownBy.refl w _) rfl
    · rw [h0'] at hk
      exact hK _ _ hk
    · rw [h0']
      have e1 : ys.take n = [] := by
        rcases Nat.eq_zero_or_pos n with hn | hn
        · rw [hn]; rfl
        · have : ys = [] := List.eq_nil_of_length_eq_zero (by omega)
          rw [this]; simp
      rw [e1]
      simpa using h
  · have hn0 : 0 < n := by have : min m n ≠ 0 := h0; omega
    have hm0 : 0 < m := by have : min m n ≠ 0 := h0; omega
    have hle := h.rd.le
    have hle2 := hr.le
    rcases A with _ | ⟨g, off, sp⟩
    · have := h.rd.nil rfl; omega
    rcases A2 with _ | a2
    · have := hr.nil rfl; omega
    obtain ⟨hsp, hb, cur, fr, hh, hsz2, hfr⟩ := h.own _ rfl
    dsimp only at hsp hb hh hsz2 hfr
    subst hsp
    have hcl : (ys.take n).length = min m n := by rw [List.length_take, hyl]; omega
    have hf : (Builtin.firstCells 1 (min m n) (.slice (some a2) m c2)).run P w = .ok (ys.take n).toArray w :=
      run_firstCells_some (P := P) w 1 (min m n) a2 m c2 (ys.take n) (by rw [hcl]; simp) (fun j v hv => by
        rw [List.getElem?_take] at hv
        split at hv
        · exact hr.cell j v hv
        · cases hv)
    have hst := run_storeCells_fr P g off e fr (ys.take n) 0 cur w hh (by rw [hcl]; omega) (fun j h1 h2 => hfr j (by omega) (by rw [hcl] at h2; omega)) (fun v hv => h1 v (List.mem_of_mem_take hv))
    simp only [Nat.add_zero] at hst
    have hrun : (Builtin.copy_ #[t, t] o.type #[.slice (some ⟨g, off, none⟩) n c, .slice (some a2) m c2]).run P w = .ok (.int .i64 ((min m n : Nat) : Int)) (w.setRow g (cur.toList.take off ++ ys.take n ++ cur.toList.drop (off + (ys.take n).length)).toArray) := by
      have hsz3 := et.size w
      have hmin : Nat.min m n = min m n := rfl
      simp only [Builtin.copy_, List.getElem?_toArray, List.getElem?_cons_zero, List.getElem?_cons_succ, Sem.run_bind, run_underlying et.und, Result.andThen_ok, Builtin.lenOf, Sem.run_pure, hsz3, hmin, hf, hst]
      rfl
    have ho2 := h.storeAll (ys.take n) (by rw [hcl]; omega) g off rfl hh
    rw [hcl] at ho2 hrun
    have hg2 : w.grownBy (w.setRow g (cur.toList.take off ++ ys.take n ++ cur.toList.drop (off + min m n)).toArray) (blk (some ⟨g, off, none⟩)) :=
      ⟨rfl, rfl, rfl, by simp, fun q _ hq => setRow_other w g q _ (fun e => hq (by simp [blk, e]))⟩
    have hz2 : (w.setRow g (cur.toList.take off ++ ys.take n ++ cur.toList.drop (off + min m n)).toArray).heap.size = w.heap.size := by simp
    generalize w.setRow g (cur.toList.take off ++ ys.take n ++ cur.toList.drop (off + min m n)).toArray = W at *
    unfold Oper.wp
    simp [execOp, ho, resolve, invoke, builtin, hd, hs, hrun, Result.andThen]
    exact hK _ _ (k _ ho2 hg2 hz2)
end

end Go.Proofs.YtaopohacelmglaaDoor

/-
  A region that draws its order, whose operations only read and whose calls hand back a value that hangs on no world and leave what was there: walked once, in the order of the text.
-/
namespace Go.Proofs.YtaopohacelmglaaDoor
open Go.RowKit Go.Sort

theorem wpQuiet_mono {P : Program} {ops : Array Oper} {C : World → Prop} {Q Q' : Act → Prop} (hq : ∀ a, Q a → Q' a) : ∀ (l : List Oper) (a : Act), wpQuiet P ops C Q l a → wpQuiet P ops C Q' l a
  | [], a, h => hq a h
  | o :: rest, a, h => by
    unfold wpQuiet at h ⊢
    split
    · rename_i hw
      rw [if_pos hw] at h
      exact Oper.quiet_mono (fun a => wpQuiet_mono hq rest a) h
    · rename_i hw
      rw [if_neg hw] at h
      exact wpQuiet_mono hq rest _ h

theorem wp_region_qb {P : Program} {id : Nat} {Q : Exit → Act → World → Prop} {a : Act} {w : World} {l : List Oper} (hm : P.follows .mixedOrders = true) (hB : Region.lexB .any l.toArray = true)
    (h : wpQuiet P l.toArray (fun w' => ∃ p : Regrown, w' = grow (redrawn w p.d) p.os) (fun a' => ∀ w', Below w.heap.size w w' → Q .normal a' w') l a) : (Code.region id l.toArray true).wp P Q a w :=
  wp_region_quiet_below hm hB (wpQuiet_mono (fun a' ha w' ⟨p, hp⟩ => ha w' (by rw [hp]; exact below_regrown w p.d p.os)) l a h)

/-! ### Draws; rows that lie apart -/
theorem Rd.drew {w : World} {size n c : Nat} {A : Option Addr} {xs : List Value} (h : Rd w size A n c xs) : Rd w.drew size A n c xs := h.keep fun _ _ _ => rfl
theorem Own.drew {w : World} {base size n c : Nat} {e : TypeId} {A : Option Addr} {xs : List Value} (h : Own w base e size A n c xs) : Own w.drew base e size A n c xs := h.keep fun _ _ _ _ => rfl
theorem Own.apart {wa wb : World} {ba bb sa sb na nb ca cb : Nat} {ea eb' : TypeId} {A1 A2 : Option Addr} {xs ys : List Value} (h1 : Own wa ba ea sa A1 na ca xs) (h2 : Own wb bb eb' sb A2 nb cb ys) (hle : wa.heap.size ≤ bb) : ∀ g, blk A2 = some g → blk A1 ≠ some g := by
  intro g h3 h4
  have := (h1.lt g h4).2
  have := (h2.lt g h3).1
  omega
theorem Own.apart' {wa wb : World} {ba bb sa sb na nb ca cb : Nat} {ea eb' : TypeId} {A1 A2 : Option Addr} {xs ys : List Value} (h1 : Own wa ba ea sa A1 na ca xs) (h2 : Own wb bb eb' sb A2 nb cb ys) (hle : wa.heap.size ≤ bb) : ∀ g, blk A1 = some g → blk A2 ≠ some g := by
  intro g h3 h4
  have := (h1.lt g h3).2
  have := (h2.lt g h4).1
  omega

/-! ### Cuts of a string that is a list of bytes -/
theorem run_str_h {P : Program} {t : TypeId} (ht : P.underlying t = some .string) (l : List UInt8) (k : Nat) (hk : k ≤ l.length) {kh : IntKind} (W : World) :
    (Instr.sliceAt t (.string ⟨l.toArray⟩) none (some (.int kh (k : Int))) none).run P W = .ok (.string ⟨(l.take k).toArray⟩) W := by
  have hs : (⟨l.toArray⟩ : ByteArray).size = l.length := by simp [ByteArray.size]
  rw [run_sliceAt_string (h := ht), run_slice_string_h (ht := ht) (h0 := by omega) (h2 := by rw [hs]; omega)]
  congr 2
  apply ByteArray.ext
  apply Array.ext'
  simp [ByteArray.data_extract]

end Go.Proofs.YtaopohacelmglaaDoor

/-
  Package target: plain bytes, half a byte's digit.
-/
namespace Go.Proofs.YtaopohacelmglaaDoor.Tg
open Go.RowKit

def markL : List UInt8 := [45, 46, 95, 126]
/-- Is the byte plain? -/
def plB (x : UInt8) : Bool := (decide (97 ≤ x.toNat) && decide (x.toNat ≤ 122)) || (decide (65 ≤ x.toNat) && decide (x.toNat ≤ 90)) || (decide (48 ≤ x.toNat) && decide (x.toNat ≤ 57)) || markL.contains x
/-- What a digit of sixteen says, great letters too: -1 for none. -/
def hxI (x : Int) : Int := if 48 ≤ x ∧ x ≤ 57 then x - 48 else if 97 ≤ x ∧ x ≤ 102 then x - 97 + 10 else if 65 ≤ x ∧ x ≤ 70 then x - 65 + 10 else -1
def hxV (x : Int) : Int := if hxI x < 0 then 0 else hxI x
def hxB (x : Int) : Bool := decide (0 ≤ hxI x)
theorem hx_yes {x h : Int} (e : hxI x = h) (h0 : 0 ≤ h) : hxV x = h ∧ hxB x = true := by
  unfold hxV hxB
  rw [e]
  exact ⟨if_neg (by omega), decide_eq_true h0⟩
theorem hx_no {x : Int} (e : hxI x = -1) : hxV x = 0 ∧ hxB x = false := by
  unfold hxV hxB
  rw [e]
  exact ⟨rfl, rfl⟩
theorem hx_case (x : Int) : (48 ≤ x ∧ x ≤ 57) ∨ (97 ≤ x ∧ x ≤ 102) ∨ (65 ≤ x ∧ x ≤ 70) ∨ x < 48 ∨ (57 < x ∧ x < 65) ∨ (70 < x ∧ x < 97) ∨ 102 < x := by omega
theorem half_any (x : Int) (h0 : 0 ≤ x) (h1 : x ≤ 255) (w : World) : Calls Tryd.prog 74 #[.int .u8 x] w fun e w' => e = .returned (.tuple #[.int .u8 (hxV x), .bool (hxB x)]) ∧ w = w' := by
  rcases hx_case x with ⟨c1, c2⟩ | ⟨c1, c2⟩ | ⟨c1, c2⟩ | c1 | ⟨c1, c2⟩ | ⟨c1, c2⟩ | c1
  · have HE := Lib.hid (hx_yes (x := x) (h := x - 48) (if_pos ⟨c1, c2⟩) (by omega))
    clear h0 h1
    go_enter Tryd.func74, Tryd.ntmps74
    go_wp2_with fail
    go_ret2
    rw [HE.out.1, HE.out.2]
    exact ⟨rfl, rfl⟩
  · have HE := Lib.hid (hx_yes (x := x) (h := x - 97 + 10) ((if_neg (by omega)).trans (if_pos ⟨c1, c2⟩)) (by omega))
    clear h0 h1
    go_enter Tryd.func74, Tryd.ntmps74
    go_wp2_with fail
    go_ret2
    rw [HE.out.1, HE.out.2]
    exact ⟨rfl, rfl⟩
  · have HE := Lib.hid (hx_yes (x := x) (h := x - 65 + 10) ((if_neg (by omega)).trans ((if_neg (by omega)).trans (if_pos ⟨c1, c2⟩))) (by omega))
    clear h0 h1
    go_enter Tryd.func74, Tryd.ntmps74
    go_wp2_with fail
    go_ret2
    rw [HE.out.1, HE.out.2]
    exact ⟨rfl, rfl⟩
  all_goals
    have HE := Lib.hid (hx_no (x := x) ((if_neg (by omega)).trans ((if_neg (by omega)).trans (if_neg (by omega)))))
    go_enter Tryd.func74, Tryd.ntmps74
    go_wp2_with fail
    all_goals first
      | (go_ret2; rw [HE.out.1, HE.out.2]; exact ⟨rfl, rfl⟩)
      | (exfalso; simp at *; omega)

end Go.Proofs.YtaopohacelmglaaDoor.Tg
