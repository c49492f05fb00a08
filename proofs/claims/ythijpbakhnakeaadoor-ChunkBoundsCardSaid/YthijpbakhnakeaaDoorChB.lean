/-
  Package chunk: want, take.
-/
import Derived.Test.YthijpbakhnakeaaDoorChA
namespace Go.Proofs.YthijpbakhnakeaaDoor
open Go.RowKit

theorem far {g i j : Nat} (h : i ≠ j) (W : World) (v : Value) : (W.setCell ⟨g, i, none⟩ v).cell? ⟨g, j, none⟩ = W.cell? ⟨g, j, none⟩ := by
  apply World.cell?_setCell_other
  intro e
  simp only [Addr.mk.injEq] at e
  exact h e.2.1
def wantP (s : St) (c must nx : Int) : St × Int := if c = must then ({ s with nx := nx }, 0) else (s, 4)
/-- What a call may write: the body and its row. -/
def Mine (g : Nat) (A : Option Addr) (k : Nat) : Prop := k = g ∨ blk A = some k

theorem want_any {w : World} {base g : Nat} {A : Option Addr} {n c : Nat} {s : St} (hb : Body w base g A n c s) (x must nx : Int) :
    Calls Tryd.prog 23 #[.pointer (some ⟨g, 0, none⟩), .int .u8 x, .int .u8 must, .int .i64 nx] w fun e w' => e = .returned (.int .i64 (wantP s x must nx).2) ∧ Body w' base g A n c (wantP s x must nx).1 ∧ But (Mine g A) w w' := by
  obtain ⟨c0, c1, c2, c3, c4, f0, f1, f2, f3, f4⟩ := hb.facts
  have hB := hb.set 0 (.int .i64 nx) { s with nx := nx } rfl rfl
  have hw : But (Mine g A) w (w.setCell ⟨g, 0, none⟩ (.int .i64 nx)) := (But.refl _ w).set _ (.inl (.inl rfl))
  by_cases hx : x = must
  · subst hx
    have e : wantP s x x nx = ({ s with nx := nx }, 0) := if_pos rfl
    rw [e]
    clear e
    go_enter Tryd.func23, Tryd.ntmps23
    go_wp2_with fail
    go_ret
    exact ⟨rfl, hB, hw⟩
  · have e : wantP s x must nx = (s, 4) := if_neg hx
    rw [e]
    clear e
    have hx' : (x != must) = true := by simpa using hx
    go_enter Tryd.func23, Tryd.ntmps23
    go_wp2_with fail
    go_ret
    exact ⟨rfl, hb, But.refl _ _⟩

/-- A byte is taken. -/
def takeP (s : St) (c : UInt8) : St × Int :=
  if s.nx = 1 ∨ s.nx = 4 then ({ s with got := s.got ++ [c], lf := s.lf - 1, nx := if 1 < s.lf then s.nx else if s.nx = 1 then 9 else 5 }, 0)
  else if s.nx = 2 then
    (if 0 ≤ digP (c.toNat : Int) ∧ s.dg < 8 then ({ s with lf := s.lf * 16 + digP (c.toNat : Int), dg := s.dg + 1 }, 0) else if s.dg = 0 then (s, 4) else wantP s (c.toNat : Int) 13 3)
  else if s.nx = 3 then
    (if (c.toNat : Int) ≠ 10 then ({ s with dg := 0 }, 4) else if 4096 - (s.got.length : Int) < s.lf then ({ s with dg := 0 }, 2) else if s.lf = 0 then ({ s with dg := 0, nx := 7 }, 0) else ({ s with dg := 0, nx := 4 }, 0))
  else if s.nx = 5 then wantP s (c.toNat : Int) 13 6
  else if s.nx = 6 then wantP s (c.toNat : Int) 10 2
  else if s.nx = 7 then wantP s (c.toNat : Int) 13 8
  else if s.nx = 8 then wantP s (c.toNat : Int) 10 9
  else (s, 0)
/-- The numbers' bounds. -/
def Num (s : St) : Prop := 0 ≤ s.lf ∧ s.lf ≤ 68719476735 ∧ 0 ≤ s.dg ∧ s.dg ≤ 8 ∧ s.got.length ≤ 1048576

def TakeSpec (w : World) (base g : Nat) (A : Option Addr) (s : St) (x : UInt8) : Prop :=
    Calls Tryd.prog 19 #[.pointer (some ⟨g, 0, none⟩), .int .u8 (x.toNat : Int)] w fun e w' => ∃ A' n' c', e = .returned (.int .i64 (takeP s x).2) ∧ Body w' base g A' n' c' (takeP s x).1 ∧ But (Mine g A) w w' ∧ ∀ k, blk A' = some k → blk A = some k ∨ w.heap.size ≤ k

/-- The four that want one byte. -/
theorem take_want {w : World} {base g : Nat} {A : Option Addr} {n c : Nat} {s : St} (hb : Body w base g A n c s) (x : UInt8) (h : s.nx = 5 ∨ s.nx = 6 ∨ s.nx = 7 ∨ s.nx = 8) : TakeSpec w base g A s x := by
  obtain ⟨c0, c1, c2, c3, c4, f0, f1, f2, f3, f4⟩ := hb.facts
  obtain ⟨nx, lf, dg, bd, got⟩ := s
  dsimp only at h c0 c1 c2 c4
  unfold TakeSpec
  rcases h with rfl | rfl | rfl | rfl
  all_goals
    first
      | (have e : takeP ⟨5, lf, dg, bd, got⟩ x = wantP ⟨5, lf, dg, bd, got⟩ (x.toNat : Int) 13 6 := rfl
         rw [e]
         clear e)
      | (have e : takeP ⟨6, lf, dg, bd, got⟩ x = wantP ⟨6, lf, dg, bd, got⟩ (x.toNat : Int) 10 2 := rfl
         rw [e]
         clear e)
      | (have e : takeP ⟨7, lf, dg, bd, got⟩ x = wantP ⟨7, lf, dg, bd, got⟩ (x.toNat : Int) 13 8 := rfl
         rw [e]
         clear e)
      | (have e : takeP ⟨8, lf, dg, bd, got⟩ x = wantP ⟨8, lf, dg, bd, got⟩ (x.toNat : Int) 10 9 := rfl
         rw [e]
         clear e)
    go_enter Tryd.func19, Tryd.ntmps19
    go_wp2_with fail
    refine (want_any hb _ _ _).mono ?_
    rintro e w' ⟨rfl, hb', hw'⟩
    go_wp2_with fail
    go_ret
    exact ⟨A, n, c, rfl, hb', hw', fun k hk => .inl hk⟩

end Go.Proofs.YthijpbakhnakeaaDoor
