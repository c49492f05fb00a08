/-
  A region that draws its order, whose operations only read and whose calls hand back a value that hangs on no world and leave what was there: walked once, in the order of the text.
-/
import Derived.Test.YteldghiejmpknaaDoorBase
import Derived.Lib.QuietBelow
namespace Go.Proofs.YteldghiejmpknaaDoor
open Go.RowKit Go.Sort

theorem wpQuiet_mono {P : Program} {ops : Array Oper} {C : World → Prop} {Q Q' : Act → Prop} (hq : ∀ a, Q a → Q' a) : ∀ (l : List Oper) (a : Act), wpQuiet P ops C Q l a → wpQuiet P ops C Q' l a
  | [], a, h => hq a h
  | o :: rest, a, h => by
    unfold wpQuiet at h ⊢
    split
    · rename_i hw
      rw [if_pos hw] at h
      exact Oper.quiet_mono (fun a => wpQuiet_mono hq rest a) h
    · rename_i hw
      rw [if_neg hw] at h
      exact wpQuiet_mono hq rest _ h

theorem wp_region_qb {P : Program} {id : Nat} {Q : Exit → Act → World → Prop} {a : Act} {w : World} {l : List Oper} (hm : P.follows .mixedOrders = true) (hB : Region.lexB .any l.toArray = true)
    (h : wpQuiet P l.toArray (fun w' => ∃ p : Regrown, w' = grow (redrawn w p.d) p.os) (fun a' => ∀ w', Below w.heap.size w w' → Q .normal a' w') l a) : (Code.region id l.toArray true).wp P Q a w :=
  wp_region_quiet_below hm hB (wpQuiet_mono (fun a' ha w' ⟨p, hp⟩ => ha w' (by rw [hp]; exact below_regrown w p.d p.os)) l a h)

/-! ### Draws; rows that lie apart -/
theorem Rd.drew {w : World} {size n c : Nat} {A : Option Addr} {xs : List Value} (h : Rd w size A n c xs) : Rd w.drew size A n c xs := h.keep fun _ _ _ => rfl
theorem Own.drew {w : World} {base size n c : Nat} {e : TypeId} {A : Option Addr} {xs : List Value} (h : Own w base e size A n c xs) : Own w.drew base e size A n c xs := h.keep fun _ _ _ _ => rfl
theorem Own.apart {wa wb : World} {ba bb sa sb na nb ca cb : Nat} {ea eb' : TypeId} {A1 A2 : Option Addr} {xs ys : List Value} (h1 : Own wa ba ea sa A1 na ca xs) (h2 : Own wb bb eb' sb A2 nb cb ys) (hle : wa.heap.size ≤ bb) : ∀ g, blk A2 = some g → blk A1 ≠ some g := by
  intro g h3 h4
  have := (h1.lt g h4).2
  have := (h2.lt g h3).1
  omega
theorem Own.apart' {wa wb : World} {ba bb sa sb na nb ca cb : Nat} {ea eb' : TypeId} {A1 A2 : Option Addr} {xs ys : List Value} (h1 : Own wa ba ea sa A1 na ca xs) (h2 : Own wb bb eb' sb A2 nb cb ys) (hle : wa.heap.size ≤ bb) : ∀ g, blk A1 = some g → blk A2 ≠ some g := by
  intro g h3 h4
  have := (h1.lt g h3).2
  have := (h2.lt g h4).1
  omega

/-! ### Cuts of a string that is a list of bytes -/
theorem run_str_h {P : Program} {t : TypeId} (ht : P.underlying t = some .string) (l : List UInt8) (k : Nat) (hk : k ≤ l.length) {kh : IntKind} (W : World) :
    (Instr.sliceAt t (.string ⟨l.toArray⟩) none (some (.int kh (k : Int))) none).run P W = .ok (.string ⟨(l.take k).toArray⟩) W := by
  have hs : (⟨l.toArray⟩ : ByteArray).size = l.length := by simp [ByteArray.size]
  rw [run_sliceAt_string (h := ht), run_slice_string_h (ht := ht) (h0 := by omega) (h2 := by rw [hs]; omega)]
  congr 2
  apply ByteArray.ext
  apply Array.ext'
  simp [ByteArray.data_extract]

end Go.Proofs.YteldghiejmpknaaDoor
