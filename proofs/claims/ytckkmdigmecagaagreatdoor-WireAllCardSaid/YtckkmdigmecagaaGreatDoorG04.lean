/-
  Joined texts of this claim's author (each began as a text of its own; each says itself what it holds).
-/
import Derived.Test.YtckkmdigmecagaaGreatDoorG03
import Derived.Test.YtckkmdigmecagaaGreatDoorG02
import Derived.Test.YtckkmdigmecagaaGreatDoorG00
import Derived.Lib.SlBytesConst
set_option linter.unusedVariables false
set_option linter.unusedSimpArgs false

/-
  Package wire: a wire in memory.
-/
namespace Go.Proofs.YtckkmdigmecagaaGreatDoor
open Go.RowKit

/-- Where a wire's parts lie: its line's row, its fields' row, its body and the body's row. -/
structure WMem where
  L : Option Addr
  nL : Nat
  cL : Nat
  F : Option Addr
  nF : Nat
  cF : Nat
  pb : Option Nat
  A : Option Addr
  n : Nat
  c : Nat
def ptrV : Option Nat → Value
  | none => .pointer none
  | some g => .pointer (some ⟨g, 0, none⟩)
def wireCells (x : WSt) (m : WMem) : Array Value := #[.int .i64 (x.nx : Int), .slice m.L m.nL m.cL, .string ⟨x.m.toArray⟩, .string ⟨x.t.toArray⟩, .slice m.F m.nF m.cF, .slice none 0 0, .bool x.kp, ptrV m.pb]
/-- Block k is the wire's. -/
def WMem.has (g : Nat) (m : WMem) (k : Nat) : Prop := k = g ∨ blk m.L = some k ∨ blk m.F = some k ∨ m.pb = some k ∨ blk m.A = some k
/-- No two of a wire's parts lie in one block. -/
structure WMem.Apart (g : Nat) (m : WMem) : Prop where
  L : blk m.L ≠ some g
  F : blk m.F ≠ some g
  B : m.pb ≠ some g
  A : blk m.A ≠ some g
  LF : ∀ k, blk m.L = some k → blk m.F ≠ some k
  LB : ∀ k, blk m.L = some k → m.pb ≠ some k
  LA : ∀ k, blk m.L = some k → blk m.A ≠ some k
  FB : ∀ k, blk m.F = some k → m.pb ≠ some k
  FA : ∀ k, blk m.F = some k → blk m.A ≠ some k
def BoP (w : World) (base : Nat) (m : WMem) : Option St → Prop
  | none => m.pb = none ∧ m.A = none
  | some st => ∃ gb, m.pb = some gb ∧ Body w base gb m.A m.n m.c st
/-- Block g is a wire. -/
structure WireB (w : World) (base g : Nat) (x : WSt) (m : WMem) : Prop where
  ge : base ≤ g
  obj : w.heap[g]? = some (.cells (wireCells x m) 60 (0, 0))
  ln : Own w base 5 1 m.L m.nL m.cL (x.ln.map b8)
  fs : Own w base 44 2 m.F m.nF m.cF (Fl.fdL x.fs)
  bo : BoP w base m x.bo
  nd : m.Apart g
section
variable {w w' : World} {base g : Nat} {x : WSt} {m : WMem}
theorem WireB.lt (h : WireB w base g x m) : g < w.heap.size := (Array.getElem?_eq_some_iff.1 h.obj).1
theorem WireB.in_ (h : WireB w base g x m) : ∀ k, m.has g k → base ≤ k ∧ k < w.heap.size := by
  intro k hk
  rcases hk with rfl | h1 | h1 | h1 | h1
  · exact ⟨h.ge, h.lt⟩
  · exact h.ln.lt k h1
  · exact h.fs.lt k h1
  · have hb := h.bo
    cases hx : x.bo with
    | none =>
      rw [hx] at hb
      rw [hb.1] at h1
      cases h1
    | some st =>
      rw [hx] at hb
      obtain ⟨gb, h2, h3⟩ := hb
      rw [h2] at h1
      obtain rfl := Option.some.inj h1
      exact ⟨h3.ge, h3.lt⟩
  · have hb := h.bo
    cases hx : x.bo with
    | none =>
      rw [hx] at hb
      rw [hb.2] at h1
      cases h1
    | some st =>
      rw [hx] at hb
      obtain ⟨gb, h2, h3⟩ := hb
      exact h3.row.lt k h1
theorem BoP.keep {o : Option St} (h : BoP w base m o) (hk : ∀ k, m.pb = some k ∨ blk m.A = some k → w'.heap[k]? = w.heap[k]?) : BoP w' base m o := by
  cases o with
  | none => exact h
  | some st =>
    obtain ⟨gb, h2, h3⟩ := h
    exact ⟨gb, h2, h3.keep (hk gb (.inl h2)) (fun k hA => hk k (.inr hA))⟩
theorem WireB.keep (h : WireB w base g x m) (hk : ∀ k, m.has g k → w'.heap[k]? = w.heap[k]?) : WireB w' base g x m :=
  ⟨h.ge, (hk g (.inl rfl)).trans h.obj, h.ln.keep fun k h1 _ _ => hk k (.inr (.inl h1)), h.fs.keep fun k h1 _ _ => hk k (.inr (.inr (.inl h1))), h.bo.keep fun k h1 => hk k (.inr (.inr (.inr h1))), h.nd⟩
theorem WireB.below (h : WireB w base g x m) (hb : Below w.heap.size w w') : WireB w' base g x m := h.keep fun k hk => hb.block k (h.in_ k hk).2
theorem WireB.cells (h : WireB w base g x m) : w.cell? ⟨g, 0, none⟩ = some (.int .i64 (x.nx : Int)) ∧ w.cell? ⟨g, 1, none⟩ = some (.slice m.L m.nL m.cL) ∧ w.cell? ⟨g, 2, none⟩ = some (.string ⟨x.m.toArray⟩) ∧ w.cell? ⟨g, 3, none⟩ = some (.string ⟨x.t.toArray⟩) ∧ w.cell? ⟨g, 4, none⟩ = some (.slice m.F m.nF m.cF) ∧ w.cell? ⟨g, 5, none⟩ = some (.slice none 0 0) ∧ w.cell? ⟨g, 6, none⟩ = some (.bool x.kp) ∧ w.cell? ⟨g, 7, none⟩ = some (ptrV m.pb) := by
  have ho := h.obj
  refine ⟨?_, ?_, ?_, ?_, ?_, ?_, ?_, ?_⟩ <;> (simp only [World.cell?, ho]; rfl)
theorem WireB.free (h : WireB w base g x m) (i : Nat) : w.frozen? ⟨g, i, none⟩ = false := by simp [World.frozen?, h.obj]
end
/-- What an operation on a wire leaves as it was. -/
def WStep (w : World) (base g : Nat) (m : WMem) (w' : World) (x' : WSt) : Prop :=
  ∃ m', WireB w' base g x' m' ∧ But (m.has g) w w' ∧ ∀ k, m'.has g k → m.has g k ∨ w.heap.size ≤ k

theorem New_any (w : World) : Calls Tryz.prog 8 #[] w fun e w' => e = .returned (.pointer (some ⟨w.heap.size, 0, none⟩)) ∧ WireB w' w.heap.size w.heap.size newW ⟨none, 0, 0, none, 0, 0, none, none, 0, 0⟩ ∧ Below w.heap.size w w' := by
  go_enter Tryz.func8, Tryz.ntmps8
  go_wp2_with fail
  go_ret
  refine ⟨rfl, ⟨Nat.le_refl _, ?_, Own.nil_ _ _ _ _, Own.nil_ _ _ _ _, ⟨rfl, rfl⟩, by constructor <;> simp [blk]⟩, (Below.refl _ _).alloc (Nat.le_refl _) _⟩
  show (w.heap.push _)[w.heap.size]? = _
  simp [wireCells, newW, ptrV]

end Go.Proofs.YtckkmdigmecagaaGreatDoor

/-
  Package wire: stores into a wire.
-/
namespace Go.Proofs.YtckkmdigmecagaaGreatDoor
open Go.RowKit

theorem setc_other {w : World} {g i k : Nat} {v : Value} (h : g ≠ k) : (w.setCell ⟨g, i, none⟩ v).heap[k]? = w.heap[k]? := by
  simp [World.setCell, Array.getElem?_modify, h]
theorem setc_same {w : World} {g i : Nat} {cs : Array Value} {t : TypeId} {fr : Nat × Nat} (v : Value) (h : w.heap[g]? = some (.cells cs t fr)) : (w.setCell ⟨g, i, none⟩ v).heap[g]? = some (.cells (cs.setIfInBounds i v) t fr) := by
  simp [World.setCell, Array.getElem?_modify, h]
section
variable {w w' : World} {base g : Nat} {x : WSt} {m : WMem}
/-- A store into the wire's own block, of a value that names no row. -/
theorem WireB.set (h : WireB w base g x m) (i : Nat) (v : Value) (y : WSt) (hc : (wireCells x m).setIfInBounds i v = wireCells y m) (hl : y.ln = x.ln) (hf : y.fs = x.fs) (hb : y.bo = x.bo) : WireB (w.setCell ⟨g, i, none⟩ v) base g y m := by
  refine ⟨h.ge, by rw [setc_same v h.obj, hc], ?_, ?_, ?_, h.nd⟩
  · rw [hl]
    exact h.ln.keep fun k hk _ _ => setc_other (fun e => h.nd.L (by rw [hk, e]))
  · rw [hf]
    exact h.fs.keep fun k hk _ _ => setc_other (fun e => h.nd.F (by rw [hk, e]))
  · rw [hb]
    refine h.bo.keep fun k hk => setc_other (fun e => ?_)
    rcases hk with h1 | h1
    · exact h.nd.B (by rw [h1, e])
    · exact h.nd.A (by rw [h1, e])
theorem WireB.setKp (h : WireB w base g x m) (b : Bool) : WireB (w.setCell ⟨g, 6, none⟩ (.bool b)) base g { x with kp := b } m := h.set 6 _ _ rfl rfl rfl rfl
theorem WireB.setNx (h : WireB w base g x m) (n : Nat) : WireB (w.setCell ⟨g, 0, none⟩ (.int .i64 (n : Int))) base g { x with nx := n } m := h.set 0 _ _ rfl rfl rfl rfl
theorem But.setg {S : Nat → Prop} {w0 : World} (h : But S w0 w) (hS : S g) (i : Nat) (v : Value) : But S w0 (w.setCell ⟨g, i, none⟩ v) := h.set v (.inl hS)
/-- A body that was made: it becomes the wire's. -/
theorem WireB.setBody (h : WireB w base g x m) (hx : x.bo = none) {gb : Nat} {A : Option Addr} {n c : Nat} {st : St} (hb : Body w base gb A n c st) (h1 : ¬ m.has g gb) (h2 : ∀ k, blk A = some k → ¬ m.has g k) : WireB (w.setCell ⟨g, 7, none⟩ (.pointer (some ⟨gb, 0, none⟩))) base g { x with bo := some st } { m with pb := some gb, A := A, n := n, c := c } := by
  have hgb : gb ≠ g := fun e => h1 (.inl e)
  refine ⟨h.ge, ?_, h.ln.keep fun k hk _ _ => setc_other (fun e => h.nd.L (by rw [hk, e])), h.fs.keep fun k hk _ _ => setc_other (fun e => h.nd.F (by rw [hk, e])), ⟨gb, rfl, hb.keep (setc_other (fun e => hgb e.symm)) (fun k hk => setc_other (fun e => h2 k hk (.inl e.symm)))⟩, ?_⟩
  · rw [setc_same _ h.obj]
    rfl
  · refine ⟨h.nd.L, h.nd.F, fun e => hgb (Option.some.inj e), fun e => h2 g e (.inl rfl), h.nd.LF, fun k hk e => h1 ?_, fun k hk e => h2 k e (.inr (.inl hk)), fun k hk e => h1 ?_, fun k hk e => h2 k e (.inr (.inr (.inl hk)))⟩
    · obtain rfl := Option.some.inj e
      exact .inr (.inl hk)
    · obtain rfl := Option.some.inj e
      exact .inr (.inr (.inl hk))
end

end Go.Proofs.YtckkmdigmecagaaGreatDoor

/-
  The laws of layer 23: begun; ChunkNone.
-/
namespace Go.Proofs.YtckkmdigmecagaaGreatDoor
open Go.RowKit

theorem Body.below {w w' : World} {base g : Nat} {A : Option Addr} {n c : Nat} {s : St} (h : Body w base g A n c s) (hb : Below w.heap.size w w') : Body w' base g A n c s :=
  h.keep (hb.block g h.lt) fun k hk => hb.block k (h.row.lt k hk).2
theorem Body.alloc {w : World} {base g : Nat} {A : Option Addr} {n c : Nat} {s : St} (h : Body w base g A n c s) (o : Obj) : Body (w.alloc o) base g A n c s := h.below ((Below.refl _ _).alloc (Nat.le_refl _) o)

def beg : List UInt8 := [51, 13, 10, 97, 98, 99, 13, 10, 48, 13, 10, 13, 10, 88]
theorem feed_beg : feedP st0 beg = (13, ⟨9, 0, 0, 0, [97, 98, 99]⟩) := by rfl

theorem Feed_begun {w : World} {base g : Nat} (hb : Body w base g none 0 0 st0) :
    Calls Tryz.prog 23 #[.pointer (some ⟨g, 0, none⟩), .slice (some ⟨w.heap.size, 0, none⟩) 14 14] (w.alloc (.cells #[.int .u8 51, .int .u8 13, .int .u8 10, .int .u8 97, .int .u8 98, .int .u8 99, .int .u8 13, .int .u8 10, .int .u8 48, .int .u8 13, .int .u8 10, .int .u8 13, .int .u8 10, .int .u8 88] 5 (14, 15))) fun e w' => ∃ A' n' c', e = .returned (.tuple #[.int .i64 13, .int .i64 0]) ∧ Body w' base g A' n' c' ⟨9, 0, 0, 0, [97, 98, 99]⟩ ∧ Below g w w' := by
  have hl : Rd (w.alloc (.cells #[.int .u8 51, .int .u8 13, .int .u8 10, .int .u8 97, .int .u8 98, .int .u8 99, .int .u8 13, .int .u8 10, .int .u8 48, .int .u8 13, .int .u8 10, .int .u8 13, .int .u8 10, .int .u8 88] 5 (14, 15))) 1 (some ⟨w.heap.size, 0, none⟩) 14 14 (beg.map b8) := (Own.new (base := 0) (e := 5) (size := 1) w (beg.map b8).toArray (14, 15) 14 14 (beg.map b8) (Nat.zero_le _) (Nat.le_refl _) (by decide) (by decide) (by decide) (by simp) (fun j _ h => by omega)).rd
  have hlt := hb.lt
  refine (Feed_any (hb.alloc _) ok0 _ 14 14 beg hl (by omega) (fun k hk => ?_)).mono ?_
  · have e : w.heap.size = k := by simpa [blk] using hk
    intro hm
    rcases hm with h1 | h1
    · omega
    · simp [blk] at h1
  · rintro e w' ⟨A', n', c', rfl, hb', hw, _⟩
    rw [feed_beg] at hb' ⊢
    have e1 : feedN st0 beg = 13 := by unfold feedN; rw [feed_beg]; rfl
    rw [e1]
    have e2 : finP (13, (⟨9, 0, 0, 0, [97, 98, 99]⟩ : St)).2 = ⟨9, 0, 0, 0, [97, 98, 99]⟩ := rfl
    rw [e2] at hb'
    refine ⟨A', n', c', rfl, hb', ((Below.refl g w).alloc (Nat.le_of_lt hlt) _).trans (hw.below (fun i hi => ?_) (by simp; omega))⟩
    rcases hi with h1 | h1
    · omega
    · simp [blk] at h1

end Go.Proofs.YtckkmdigmecagaaGreatDoor

/-
  The document's answer to chunk: digit.
-/
namespace Go.Proofs.YtckkmdigmecagaaGreatDoor
open Go.RowKit

set_option maxHeartbeats 1000000 in
theorem rdigit_any (c : UInt8) (w : World) :
    Calls Tryz.prog 44 #[.int .u8 (c.toNat : Int)] w fun e w' => e = .returned (.int .i64 (digP (c.toNat : Int))) ∧ w = w' := by
  have hc := c.toNat_lt
  obtain ⟨C, hC⟩ : ∃ C, c.toNat = C := ⟨_, rfl⟩
  rw [hC] at hc ⊢
  have hcase : (48 ≤ C ∧ C ≤ 57) ∨ (C < 48) ∨ (57 < C ∧ C < 65) ∨ (65 ≤ C ∧ C ≤ 70) ∨ (70 < C ∧ C < 97) ∨ (97 ≤ C ∧ C ≤ 102) ∨ (102 < C) := by omega
  rcases hcase with ⟨h1, h2⟩ | h1 | ⟨h1, h2⟩ | ⟨h1, h2⟩ | ⟨h1, h2⟩ | ⟨h1, h2⟩ | h1
  all_goals
    obtain ⟨d, hd⟩ : ∃ d, digP (C : Int) = d := ⟨_, rfl⟩
    have hd' := hd
    unfold digP at hd'
    first | (rw [if_pos (by omega)] at hd') | (rw [if_neg (by omega), if_pos (by omega)] at hd') | (rw [if_neg (by omega), if_neg (by omega), if_pos (by omega)] at hd') | (rw [if_neg (by omega), if_neg (by omega), if_neg (by omega)] at hd')
    rw [hd]
    clear hd
    first
      | (have e1 : d = (C : Int) - 48 := by omega
         rw [e1])
      | (have e1 : d = (C : Int) - 97 + 10 := by omega
         rw [e1])
      | (have e1 : d = (C : Int) - 65 + 10 := by omega
         rw [e1])
      | (have e1 : d = -1 := by omega
         rw [e1])
    clear hd' e1
    go_enter Tryz.func44, Tryz.ntmps44
    go_wp2_with fail
    go_ret
    exact ⟨rfl, rfl⟩

end Go.Proofs.YtckkmdigmecagaaGreatDoor
