/-
  Package chunk: a body behind a pointer; digit, want.
-/
import Derived.Test.YthijpbakhnakeaaDoorLawA
namespace Go.Proofs.YthijpbakhnakeaaDoor
open Go.RowKit

/-! ### What stays -/
/-- But for the blocks of S, and new ones, all is as it was. -/
structure But (S : Nat → Prop) (w w' : World) : Prop where
  os : w'.os = w.os
  tape : w'.tape = w.tape
  output : w'.output = w.output
  size : w.heap.size ≤ w'.heap.size
  block : ∀ k, k < w.heap.size → ¬ S k → w'.heap[k]? = w.heap[k]?
theorem But.refl (S : Nat → Prop) (w : World) : But S w w := ⟨rfl, rfl, rfl, Nat.le_refl _, fun _ _ _ => rfl⟩
theorem But.trans {S T : Nat → Prop} {a b c : World} (h : But S a b) (k : But T b c) (hT : ∀ i, T i → S i ∨ a.heap.size ≤ i) : But S a c :=
  ⟨k.os.trans h.os, k.tape.trans h.tape, k.output.trans h.output, Nat.le_trans h.size k.size, fun i hi hn => (k.block i (Nat.lt_of_lt_of_le hi h.size) (fun ht => by rcases hT i ht with h1 | h1; exact hn h1; omega)).trans (h.block i hi hn)⟩
theorem But.below {S : Nat → Prop} {w w' : World} {B : Nat} (h : But S w w') (hS : ∀ i, S i → B ≤ i) (hB : B ≤ w.heap.size) : Below B w w' :=
  ⟨h.os, h.tape, h.output, h.size, fun k hk => h.block k (Nat.lt_of_lt_of_le hk hB) (fun hs => by have := hS k hs; omega)⟩
theorem But.of_below {S : Nat → Prop} {w w' : World} (h : Below w.heap.size w w') : But S w w' := ⟨h.os, h.tape, h.output, h.size, fun k hk _ => h.block k hk⟩
theorem But.of_grown {S : Nat → Prop} {row : Option Nat} {w w' : World} (h : w.grownBy w' row) (hS : ∀ g, row = some g → S g) : But S w w' :=
  ⟨h.os, h.tape, h.output, h.size, fun k hk hn => h.block k hk (fun e => hn (hS k e.symm))⟩
theorem But.set {S : Nat → Prop} {w w' : World} (h : But S w w') {a : Addr} (v : Value) (hS : S a.block ∨ w.heap.size ≤ a.block) : But S w (w'.setCell a v) :=
  ⟨h.os, h.tape, h.output, by simpa [World.setCell] using h.size, fun k hk hn => by
    have hne : a.block ≠ k := by
      rcases hS with h1 | h1
      · intro e; subst e; exact hn h1
      · omega
    rw [← h.block k hk hn]
    simp [World.setCell, Array.getElem?_modify, hne]⟩
theorem But.drew {S : Nat → Prop} {w w' : World} (h : But S w w') : But S w w'.drew := ⟨h.os, h.tape, h.output, h.size, h.block⟩

/-! ### A body -/
/-- A body's plain state: what comes next, bytes to come, digits, the error; and what it has. -/
structure St where
  nx : Int
  lf : Int
  dg : Int
  bd : Int
  got : List UInt8
def bodyCells (s : St) (A : Option Addr) (n c : Nat) : Array Value := #[.int .i64 s.nx, .int .i64 s.lf, .int .i64 s.dg, .slice A n c, .int .i64 s.bd]
/-- Block g is a body that has its bytes in a row of its own. -/
structure Body (w : World) (base g : Nat) (A : Option Addr) (n c : Nat) (s : St) : Prop where
  ge : base ≤ g
  obj : w.heap[g]? = some (.cells (bodyCells s A n c) 43 (0, 0))
  row : Own w base 5 1 A n c (s.got.map b8)
  ne : blk A ≠ some g

theorem Body.keep {w w' : World} {base g : Nat} {A : Option Addr} {n c : Nat} {s : St} (h : Body w base g A n c s) (h1 : w'.heap[g]? = w.heap[g]?) (h2 : ∀ k, blk A = some k → w'.heap[k]? = w.heap[k]?) : Body w' base g A n c s :=
  ⟨h.ge, h1.trans h.obj, h.row.keep fun k hk _ _ => h2 k hk, h.ne⟩
theorem Body.lt {w : World} {base g : Nat} {A : Option Addr} {n c : Nat} {s : St} (h : Body w base g A n c s) : g < w.heap.size := (Array.getElem?_eq_some_iff.1 h.obj).1
theorem cell_of {w : World} {g i : Nat} {cs : Array Value} {t : TypeId} {fr : Nat × Nat} {v : Value} (h : w.heap[g]? = some (.cells cs t fr)) (hv : cs[i]? = some v) : w.cell? ⟨g, i, none⟩ = some v := by
  simp [World.cell?, h, hv]
theorem frozen_of {w : World} {g i : Nat} {cs : Array Value} {t : TypeId} (h : w.heap[g]? = some (.cells cs t (0, 0))) : w.frozen? ⟨g, i, none⟩ = false := by
  simp [World.frozen?, h]
/-- A body's cells, and that none is frozen. -/
theorem Body.facts {w : World} {base g : Nat} {A : Option Addr} {n c : Nat} {s : St} (h : Body w base g A n c s) :
    w.cell? ⟨g, 0, none⟩ = some (.int .i64 s.nx) ∧ w.cell? ⟨g, 1, none⟩ = some (.int .i64 s.lf) ∧ w.cell? ⟨g, 2, none⟩ = some (.int .i64 s.dg) ∧ w.cell? ⟨g, 3, none⟩ = some (.slice A n c) ∧ w.cell? ⟨g, 4, none⟩ = some (.int .i64 s.bd) ∧
    w.frozen? ⟨g, 0, none⟩ = false ∧ w.frozen? ⟨g, 1, none⟩ = false ∧ w.frozen? ⟨g, 2, none⟩ = false ∧ w.frozen? ⟨g, 3, none⟩ = false ∧ w.frozen? ⟨g, 4, none⟩ = false :=
  ⟨cell_of h.obj rfl, cell_of h.obj rfl, cell_of h.obj rfl, cell_of h.obj rfl, cell_of h.obj rfl, frozen_of h.obj, frozen_of h.obj, frozen_of h.obj, frozen_of h.obj, frozen_of h.obj⟩

/-- A cell of the block is set. -/
theorem heap_setCell {w : World} {g i : Nat} {cs : Array Value} {t : TypeId} {fr : Nat × Nat} (v : Value) (h : w.heap[g]? = some (.cells cs t fr)) : (w.setCell ⟨g, i, none⟩ v).heap[g]? = some (.cells (cs.setIfInBounds i v) t fr) := by
  simp [World.setCell, Array.getElem?_modify, h]
theorem heap_setCell_ne {w : World} {g i k : Nat} (v : Value) (h : g ≠ k) : (w.setCell ⟨g, i, none⟩ v).heap[k]? = w.heap[k]? := by
  simp [World.setCell, Array.getElem?_modify, h]
theorem Body.set {w : World} {base g : Nat} {A : Option Addr} {n c : Nat} {s : St} (h : Body w base g A n c s) (i : Nat) (v : Value) (s' : St) (hc : (bodyCells s A n c).setIfInBounds i v = bodyCells s' A n c) (hg : s'.got = s.got) : Body (w.setCell ⟨g, i, none⟩ v) base g A n c s' :=
  ⟨h.ge, by rw [heap_setCell v h.obj, hc], by
    rw [hg]
    exact h.row.keep fun k hk _ _ => heap_setCell_ne v (fun e => h.ne (by rw [hk, e])), h.ne⟩
/-- Its bytes lie in another row. -/
theorem Body.move {w : World} {base g : Nat} {A A' : Option Addr} {n c n' c' : Nat} {s : St} {l : List UInt8} (hobj : w.heap[g]? = some (.cells (bodyCells s A n c) 43 (0, 0))) (hge : base ≤ g) (ho : Own w base 5 1 A' n' c' (l.map b8)) (hne : blk A' ≠ some g) : Body (w.setCell ⟨g, 3, none⟩ (.slice A' n' c')) base g A' n' c' { s with got := l } :=
  ⟨hge, by rw [heap_setCell _ hobj]; rfl, ho.keep fun k hk _ _ => heap_setCell_ne _ (fun e => hne (by rw [hk, e])), hne⟩

/-! ### digit -/
/-- What a digit stands for; -1: none. -/
def digP (c : Int) : Int := if 48 ≤ c ∧ c ≤ 57 then c - 48 else if 97 ≤ c ∧ c ≤ 102 then c - 87 else if 65 ≤ c ∧ c ≤ 70 then c - 55 else -1
theorem or32' : ∀ c : Fin 256, c.1 ||| 32 = if c.1 / 32 % 2 = 1 then c.1 else c.1 + 32 := by decide +kernel
theorem or32 (c : Nat) (h : c < 256) : bits .or .u8 (c : Int) 32 = ((if c / 32 % 2 = 1 then c else c + 32 : Nat) : Int) := by
  have h1 := u8_or_nat c 32 h (by omega)
  rw [or32' ⟨c, h⟩] at h1
  exact h1

set_option maxHeartbeats 1000000 in
theorem digit_any (c : UInt8) (w : World) :
    Calls Tryd.prog 22 #[.int .u8 (c.toNat : Int)] w fun e w' => e = .returned (.tuple #[.int .i64 (max 0 (digP (c.toNat : Int))), .bool (decide (0 ≤ digP (c.toNat : Int)))]) ∧ w = w' := by
  have hc := c.toNat_lt
  obtain ⟨C, hC⟩ : ∃ C, c.toNat = C := ⟨_, rfl⟩
  rw [hC] at hc ⊢
  have hE := or32 C (by omega)
  obtain ⟨E, hE'⟩ : ∃ E : Nat, (if C / 32 % 2 = 1 then C else C + 32) = E := ⟨_, rfl⟩
  rw [hE'] at hE
  have hcase : (48 ≤ C ∧ C ≤ 57) ∨ (C < 48 ∧ E < 97) ∨ (57 < C ∧ C < 65 ∧ (E < 97)) ∨ (57 < C ∧ 65 ≤ C ∧ C ≤ 70 ∧ 97 ≤ E ∧ E ≤ 102 ∧ E = C + 32) ∨ (70 < C ∧ C < 97 ∧ (102 < E ∨ E < 97)) ∨ (97 ≤ C ∧ C ≤ 102 ∧ 97 ≤ E ∧ E ≤ 102 ∧ E = C) ∨ (102 < C ∧ 102 < E) := by
    split at hE' <;> omega
  have HE := Lib.hid hE
  clear hE'
  rcases hcase with ⟨h1, h2⟩ | ⟨h1, h2⟩ | ⟨h1, h2, h3⟩ | ⟨h1, h2, h3, h4, h5, hEq⟩ | ⟨h1, h2, h3 | h3⟩ | ⟨h1, h2, h3, h4, hEq⟩ | ⟨h1, h2⟩
  all_goals
    obtain ⟨d, hd⟩ : ∃ d, digP (C : Int) = d := ⟨_, rfl⟩
    have hd' := hd
    unfold digP at hd'
    first | (rw [if_pos (by omega)] at hd') | (rw [if_neg (by omega), if_pos (by omega)] at hd') | (rw [if_neg (by omega), if_neg (by omega), if_pos (by omega)] at hd') | (rw [if_neg (by omega), if_neg (by omega), if_neg (by omega)] at hd')
    rw [hd]
    clear hd
    first
      | (have e1 : max 0 d = (C : Int) - 48 := by omega
         rw [e1, show decide (0 ≤ d) = true by simp; omega])
      | (have e1 : max 0 d = (E : Int) - 97 + 10 := by omega
         rw [e1, show decide (0 ≤ d) = true by simp; omega])
      | (have e1 : max 0 d = 0 := by omega
         rw [e1, show decide (0 ≤ d) = false by simp; omega])
    clear hd'
    try clear hEq
    go_enter Tryd.func22, Tryd.ntmps22
    go_wp2_with fail
    go_ret2
    exact ⟨rfl, rfl⟩

end Go.Proofs.YthijpbakhnakeaaDoor
