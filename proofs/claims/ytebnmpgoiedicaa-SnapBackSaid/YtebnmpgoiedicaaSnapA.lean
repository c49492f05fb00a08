/-
  Package snap: a manifest as a value and in a block; May, and the document's May.
-/
import Derived.Test.YtebnmpgoiedicaaLawA
import Derived.Test.YtebnmpgoiedicaaQuiet
import Derived.Laws.Rows
import Derived.Laws.StructEq
import Derived.Stop.BytesEq
namespace Go.Proofs.Ytebnmpgoiedicaa
open Go.RowKit

theorem heap_new (w : World) (o : Obj) : (w.alloc o).heap[w.heap.size]? = some o := by
  show (w.heap.push o)[w.heap.size]? = some o
  simp
theorem cell_of {w : World} {g i : Nat} {cs : Array Value} {t : TypeId} {fr : Nat × Nat} {v : Value} (h : w.heap[g]? = some (.cells cs t fr)) (hv : cs[i]? = some v) : w.cell? ⟨g, i, none⟩ = some v := by
  simp [World.cell?, h, hv]

/-- A manifest's cells: 32 bytes, the time, the label. -/
def mC (R : List UInt8) (t : Int) (s : ByteArray) : Array Value := (R.map b8 ++ [Value.int .i64 t, Value.string s]).toArray
section
variable {R : List UInt8} {t : Int} {s : ByteArray}
theorem mC_size (h : R.length = 32) : (mC R t s).size = 34 := by simp [mC, h]
theorem mC_time (h : R.length = 32) : (mC R t s)[32]? = some (.int .i64 t) := by
  simp only [mC, List.getElem?_toArray]
  rw [List.getElem?_append_right (by simp [h])]
  simp [h]
theorem mC_label (h : R.length = 32) : (mC R t s)[33]? = some (.string s) := by
  simp only [mC, List.getElem?_toArray]
  rw [List.getElem?_append_right (by simp [h])]
  simp [h]
theorem mC_root {j : Nat} {u : Value} (hu : (R.map b8)[j]? = some u) : (mC R t s)[j]? = some u := by
  simp only [mC, List.getElem?_toArray]
  rw [List.getElem?_append_left (List.getElem?_eq_some_iff.1 hu).1]
  exact hu
end
/-- Block g holds a manifest. -/
structure Man (w : World) (g : Nat) (R : List UInt8) (t : Int) (s : ByteArray) : Prop where
  len : R.length = 32
  obj : w.heap[g]? = some (.cells (mC R t s) 25 (0, 0))
section
variable {w w' : World} {g : Nat} {R : List UInt8} {t : Int} {s : ByteArray}
theorem Man.time (h : Man w g R t s) : w.cell? ⟨g, 32, none⟩ = some (.int .i64 t) := cell_of h.obj (mC_time h.len)
theorem Man.label (h : Man w g R t s) : w.cell? ⟨g, 33, none⟩ = some (.string s) := cell_of h.obj (mC_label h.len)
theorem Man.lt (h : Man w g R t s) : g < w.heap.size := (Array.getElem?_eq_some_iff.1 h.obj).1
theorem Man.below (h : Man w g R t s) (hb : Below w.heap.size w w') : Man w' g R t s := ⟨h.len, (hb.block g h.lt).trans h.obj⟩
theorem Man.belowB {B : Nat} (h : Man w g R t s) (hb : Below B w w') (hg : g < B) : Man w' g R t s := ⟨h.len, (hb.block g hg).trans h.obj⟩
theorem Man.new (w : World) (hR : R.length = 32) : Man (w.alloc (.cells (mC R t s) 25)) w.heap.size R t s := ⟨hR, heap_new _ _⟩
theorem Man.root (h : Man w g R t s) : Rd w 1 (some ⟨g, 0, none⟩) 32 32 (R.map b8) :=
  ⟨by simp [h.len], Nat.le_refl _, by decide, (fun e => by cases e), fun j u hu => by
    rw [at_some]
    have : (⟨g, 0, none⟩ : Addr).add j = ⟨g, j, none⟩ := by unfold Addr.add; split <;> simp_all
    rw [this]
    exact cell_of h.obj (mC_root hu)⟩
end

/-- May a manifest be? -/
def mayB (t : Int) (s : ByteArray) : Bool := decide (0 ≤ t) && decide (s.size ≤ 64) && s.data.toList.all fun c => decide (32 ≤ c.toNat) && decide (c.toNat ≤ 126)
theorem may_bad {t : Int} {s : ByteArray} {k : Nat} (hk : k < s.size) (h : (s[k].toNat : Int) < 32 ∨ 126 < (s[k].toNat : Int)) : mayB t s = false := by
  unfold mayB
  rw [Bool.and_eq_false_iff]
  right
  rw [List.all_eq_false]
  refine ⟨s[k], ?_, ?_⟩
  · exact Array.mem_toList_iff.2 (Array.getElem_mem (xs := s.data) (i := k) hk)
  · simp
    omega
theorem may_good {t : Int} {s : ByteArray} (h0 : 0 ≤ t) (h1 : s.size ≤ 64) (h : ∀ k (hk : k < s.size), 32 ≤ (s[k].toNat : Int) ∧ (s[k].toNat : Int) ≤ 126) : mayB t s = true := by
  unfold mayB
  rw [Bool.and_eq_true, Bool.and_eq_true]
  refine ⟨⟨by simpa using h0, by simpa using h1⟩, ?_⟩
  rw [List.all_eq_true]
  intro c hc
  obtain ⟨k, hk, rfl⟩ := List.getElem_of_mem hc
  have hk' : k < s.size := by simpa using hk
  have := h k hk'
  have e : s.data.toList[k] = s[k] := rfl
  rw [e]
  simp
  omega
theorem may_neg {t : Int} {s : ByteArray} (h : t < 0 ∨ 64 < s.size) : mayB t s = false := by
  unfold mayB
  rw [Bool.and_eq_false_iff]
  left
  rw [Bool.and_eq_false_iff]
  rcases h with h | h
  · left; simpa using h
  · right; simpa using h

set_option maxRecDepth 20000 in
set_option maxHeartbeats 2000000 in
theorem May_any (R : List UInt8) (t : Int) (s : ByteArray) (hR : R.length = 32) (w : World) (hs : s.size ≤ 9223372036854775807) :
    Calls Try.prog 9 #[.agg (mC R t s)] w fun e w' => e = .returned (.bool (mayB t s)) ∧ Below w.heap.size w w' := by
  have hm := Man.new (t := t) (s := s) w hR
  have h1 := hm.time
  have h2 := hm.label
  have h3 := mC_time (t := t) (s := s) hR
  have h4 := mC_label (t := t) (s := s) hR
  have hb := (Below.refl w.heap.size w).alloc (Nat.le_refl _) (.cells (mC R t s) 25)
  by_cases h0 : t < 0
  · rw [may_neg (.inl h0)]
    go_enter Try.func9, Try.ntmps9
    go_wp2_with fail
    go_ret
    exact ⟨rfl, hb⟩
  by_cases h64 : (64 : Int) < s.size
  · rw [may_neg (.inr (by omega))]
    have h0' : decide (t < 0) = false := by simpa using h0
    clear h0
    go_enter Try.func9, Try.ntmps9
    go_wp2_with fail
    go_ret
    exact ⟨rfl, hb⟩
  have h0' : 0 ≤ t := by omega
  have h64' : (s.size : Int) ≤ 64 := by omega
  clear h0 h64
  go_enter Try.func9, Try.ntmps9
  go_wp2_with fail
  go_loop [16] (fun i => ∃ k : Nat, k ≤ s.size ∧ i = .int .i64 k ∧ Hid (∀ j (hj : j < s.size), j < k → 32 ≤ (s[j].toNat : Int) ∧ (s[j].toNat : Int) ≤ 126)) (fun i => s.size - (intOf i).toNat)
  case atStart => exact ⟨0, by omega, rfl, (show ∀ j (hj : j < s.size), j < 0 → _ from fun j _ h => absurd h (Nat.not_lt_zero j))⟩
  case round =>
    obtain ⟨k, hk, rfl, hH⟩ := hrel
    by_cases hlt : k < s.size
    · by_cases hx : (s[k].toNat : Int) < 32
      · have HB := Lib.hid (may_bad (t := t) hlt (.inl hx))
        go_wp2_with fail
        go_ret
        rw [HB.out]
        exact ⟨rfl, hb⟩
      · by_cases hy : 126 < (s[k].toNat : Int)
        · have HB := Lib.hid (may_bad (t := t) hlt (.inr hy))
          have hx' : 32 ≤ (s[k].toNat : Int) := by omega
          clear hx
          go_wp2_with fail
          go_ret
          rw [HB.out]
          exact ⟨rfl, hb⟩
        · have hx' : 32 ≤ (s[k].toNat : Int) := by omega
          have hy' : (s[k].toNat : Int) ≤ 126 := by omega
          clear hx hy
          go_wp2_with fail
          refine ⟨⟨k + 1, by omega, by go_num, ?_⟩, by simp [intOf]; omega⟩
          show ∀ j (hj : j < s.size), j < k + 1 → _
          intro j hj hjk
          by_cases e : j = k
          · subst e
            exact ⟨hx', hy'⟩
          · exact hH.out j hj (by omega)
    · have hall := may_good h0' (by omega : s.size ≤ 64) (fun j hj => hH.out j hj (by omega))
      have HB := Lib.hid hall
      clear hall hH
      go_wp2_with fail
      go_ret
      rw [HB.out]
      exact ⟨rfl, hb⟩

end Go.Proofs.Ytebnmpgoiedicaa
