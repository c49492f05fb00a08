/-
  Package chunk: Done, Data, Chunked, Feed of none; begun; the law ChunkNone.
-/
import Derived.Test.YthijpbakhnakeaaDoorChG
import Derived.Lib.LazyBuf
namespace Go.Proofs.YthijpbakhnakeaaDoor
open Go.RowKit

theorem Clone_any (A : Option Addr) (n c : Nat) (l : List UInt8) (w : World) (h : Rd w 1 A n c (l.map b8)) (hn : n ≤ 1073741824) :
    Calls Tryd.prog 20 #[.slice A n c] w fun e w' => ∃ A' n' c', e = .returned (.slice A' n' c') ∧ Own w' w.heap.size 5 1 A' n' c' (l.map b8) ∧ Below w.heap.size w w' := by
  have hln := h.lenb
  have hE := fun W => Go.run_eql_slice_nil (P := Tryd.prog) W 22 5 A n c Tryd.underlying22
  cases A with
  | none =>
    have h1 := h.nil rfl
    have h2 := h.le
    have hn0 : n = 0 := by omega
    subst hn0
    have hc0 : c = 0 := by omega
    subst hc0
    obtain rfl : l = [] := List.eq_nil_of_length_eq_zero hln
    go_enter Tryd.func20, Tryd.ntmps20
    go_wp2_with fail
    go_ret
    exact ⟨none, 0, 0, rfl, Own.nil_ _ _ _ _, Below.refl _ _⟩
  | some a =>
    go_enter Tryd.func20, Tryd.ntmps20
    go_wp2_with (at_builtin; refine wpList_app rfl _ _ rfl eb (Own.lit _ w.heap.size [] _ 0 rfl (by decide) (Nat.le_refl _)) rfl (h.alloc _) rfl (b8_one _) (by omega) (by unfold maxLen; omega) (by simp) ?_; intro A1 c1 w1 ho1 hg1 hb1; rw [Nat.zero_add, List.nil_append] at ho1)
    go_ret
    exact ⟨A1, n, c1, rfl, ho1, ((Below.refl w.heap.size w).alloc (Nat.le_refl _) _).grown hg1 (by simp) (by intro g hg; simp [blk] at hg; omega)⟩

theorem Data_none (w : World) : Calls Tryd.prog 16 #[.pointer none] w fun e w' => e = .returned (.slice none 0 0) ∧ w = w' := by
  go_enter Tryd.func16, Tryd.ntmps16
  go_wp2_with fail
  go_ret
  exact ⟨rfl, rfl⟩
theorem Data_any {w : World} {base g : Nat} {A : Option Addr} {n c : Nat} {s : St} (hb : Body w base g A n c s) (hn : s.got.length ≤ 1048576) :
    Calls Tryd.prog 16 #[.pointer (some ⟨g, 0, none⟩)] w fun e w' => ∃ A' n' c', e = .returned (.slice A' n' c') ∧ Own w' w.heap.size 5 1 A' n' c' (s.got.map b8) ∧ Below w.heap.size w w' := by
  have c3 := hb.facts.2.2.2.1
  have hln := hb.row.lenb
  have hC := Lib.hid (Clone_any A n c s.got w hb.row.rd (by omega))
  go_enter Tryd.func16, Tryd.ntmps16
  go_wp2_with fail
  refine hC.out.mono ?_
  rintro e w1 ⟨A1, n1, c1, rfl, ho, hbl⟩
  go_wp2_with fail
  go_ret
  exact ⟨A1, n1, c1, rfl, ho, hbl⟩

theorem Done_none (w : World) : Calls Tryd.prog 15 #[.pointer none] w fun e w' => e = .returned (.bool false) ∧ w = w' := by
  go_enter Tryd.func15, Tryd.ntmps15
  go_wp2_with fail
  go_ret
  exact ⟨rfl, rfl⟩
theorem Done_any {w : World} {base g : Nat} {A : Option Addr} {n c : Nat} {s : St} (hb : Body w base g A n c s) :
    Calls Tryd.prog 15 #[.pointer (some ⟨g, 0, none⟩)] w fun e w' => e = .returned (.bool (s.nx == 9)) ∧ w = w' := by
  have c0 := hb.facts.1
  go_enter Tryd.func15, Tryd.ntmps15
  go_wp2_with fail
  go_ret
  exact ⟨rfl, rfl⟩

theorem Feed_none (B : Value) (w : World) : Calls Tryd.prog 14 #[.pointer none, B] w fun e w' => e = .returned (.tuple #[.int .i64 0, .int .i64 1]) ∧ w = w' := by
  go_enter Tryd.func14, Tryd.ntmps14
  go_wp2_with fail
  go_ret2
  exact ⟨rfl, rfl⟩
theorem Feed_zero {w : World} {base g : Nat} {A : Option Addr} {n c : Nat} {s : St} (hb : Body w base g A n c s) (h : s.nx = 0) (B : Value) : Calls Tryd.prog 14 #[.pointer (some ⟨g, 0, none⟩), B] w fun e w' => e = .returned (.tuple #[.int .i64 0, .int .i64 1]) ∧ w = w' := by
  have c0 := hb.facts.1
  rw [h] at c0
  go_enter Tryd.func14, Tryd.ntmps14
  go_wp2_with fail
  go_ret2
  exact ⟨rfl, rfl⟩

theorem heap_new (w : World) (o : Obj) : (w.alloc o).heap[w.heap.size]? = some o := by
  show (w.heap.push o)[w.heap.size]? = some o
  simp
theorem Body.new (w : World) (nx lf dg bd : Int) (base : Nat) (h : base ≤ w.heap.size) : Body (w.alloc (.cells #[.int .i64 nx, .int .i64 lf, .int .i64 dg, .slice none 0 0, .int .i64 bd] 43)) base w.heap.size none 0 0 ⟨nx, lf, dg, bd, []⟩ :=
  ⟨h, heap_new _ _, Own.nil_ _ _ _ _, by simp [blk]⟩
/-- A body in chunks, at its beginning. -/
def st0 : St := ⟨2, 0, 0, 0, []⟩
theorem ok0 : Ok st0 := ⟨by decide, by decide, by decide, by decide, by decide, by decide, by decide, fun _ => by decide, fun h => absurd h (by decide), fun _ => by decide⟩
theorem Chunked_any (w : World) : Calls Tryd.prog 13 #[] w fun e w' => e = .returned (.pointer (some ⟨w.heap.size, 0, none⟩)) ∧ Body w' w.heap.size w.heap.size none 0 0 st0 ∧ Below w.heap.size w w' := by
  have hn := Body.new w 2 0 0 0 w.heap.size (Nat.le_refl _)
  go_enter Tryd.func13, Tryd.ntmps13
  go_wp2_with fail
  go_ret
  exact ⟨rfl, hn, (Below.refl _ _).alloc (Nat.le_refl _) _⟩

end Go.Proofs.YthijpbakhnakeaaDoor
