/-
  The laws of layer 23: begun; ChunkNone.
-/
import Derived.Test.YthijpbakhnakeaaDoorChH
import Derived.Lib.SlBytesConst
namespace Go.Proofs.YthijpbakhnakeaaDoor
open Go.RowKit

theorem Body.below {w w' : World} {base g : Nat} {A : Option Addr} {n c : Nat} {s : St} (h : Body w base g A n c s) (hb : Below w.heap.size w w') : Body w' base g A n c s :=
  h.keep (hb.block g h.lt) fun k hk => hb.block k (h.row.lt k hk).2
theorem Body.alloc {w : World} {base g : Nat} {A : Option Addr} {n c : Nat} {s : St} (h : Body w base g A n c s) (o : Obj) : Body (w.alloc o) base g A n c s := h.below ((Below.refl _ _).alloc (Nat.le_refl _) o)

def beg : List UInt8 := [51, 13, 10, 97, 98, 99, 13, 10, 48, 13, 10, 13, 10, 88]
theorem feed_beg : feedP st0 beg = (13, ⟨9, 0, 0, 0, [97, 98, 99]⟩) := by rfl

theorem Feed_begun {w : World} {base g : Nat} (hb : Body w base g none 0 0 st0) :
    Calls Tryd.prog 14 #[.pointer (some ⟨g, 0, none⟩), .slice (some ⟨w.heap.size, 0, none⟩) 14 14] (w.alloc (.cells #[.int .u8 51, .int .u8 13, .int .u8 10, .int .u8 97, .int .u8 98, .int .u8 99, .int .u8 13, .int .u8 10, .int .u8 48, .int .u8 13, .int .u8 10, .int .u8 13, .int .u8 10, .int .u8 88] 5 (14, 15))) fun e w' => ∃ A' n' c', e = .returned (.tuple #[.int .i64 13, .int .i64 0]) ∧ Body w' base g A' n' c' ⟨9, 0, 0, 0, [97, 98, 99]⟩ ∧ Below g w w' := by
  have hl : Rd (w.alloc (.cells #[.int .u8 51, .int .u8 13, .int .u8 10, .int .u8 97, .int .u8 98, .int .u8 99, .int .u8 13, .int .u8 10, .int .u8 48, .int .u8 13, .int .u8 10, .int .u8 13, .int .u8 10, .int .u8 88] 5 (14, 15))) 1 (some ⟨w.heap.size, 0, none⟩) 14 14 (beg.map b8) := (Own.new (base := 0) (e := 5) (size := 1) w (beg.map b8).toArray (14, 15) 14 14 (beg.map b8) (Nat.zero_le _) (Nat.le_refl _) (by decide) (by decide) (by decide) (by simp) (fun j _ h => by omega)).rd
  have hlt := hb.lt
  refine (Feed_any (hb.alloc _) ok0 _ 14 14 beg hl (by omega) (fun k hk => ?_)).mono ?_
  · have e : w.heap.size = k := by simpa [blk] using hk
    intro hm
    rcases hm with h1 | h1
    · omega
    · simp [blk] at h1
  · rintro e w' ⟨A', n', c', rfl, hb', hw, _⟩
    rw [feed_beg] at hb' ⊢
    have e1 : feedN st0 beg = 13 := by unfold feedN; rw [feed_beg]; rfl
    rw [e1]
    have e2 : finP (13, (⟨9, 0, 0, 0, [97, 98, 99]⟩ : St)).2 = ⟨9, 0, 0, 0, [97, 98, 99]⟩ := rfl
    rw [e2] at hb'
    refine ⟨A', n', c', rfl, hb', ((Below.refl g w).alloc (Nat.le_of_lt hlt) _).trans (hw.below (fun i hi => ?_) (by simp; omega))⟩
    rcases hi with h1 | h1
    · omega
    · simp [blk] at h1

theorem begun_any (w : World) : Calls Tryd.prog 6 #[] w fun e w' => e = .returned (.bool true) ∧ Below w.heap.size w w' := by
  have hcv := fun W => Lib.run_convert_bytes_const (P := Tryd.prog) W 22 5 #[.int .u8 51, .int .u8 13, .int .u8 10, .int .u8 97, .int .u8 98, .int .u8 99, .int .u8 13, .int .u8 10, .int .u8 48, .int .u8 13, .int .u8 10, .int .u8 13, .int .u8 10, .int .u8 88] 14 14 Tryd.underlying22 Tryd.underlying5
  go_enter Tryd.func6, Tryd.ntmps6
  go_wp2_with (first
    | (go_at_call 13; refine (Chunked_any _).mono ?_; rintro e w1 ⟨rfl, hb1, hbl1⟩)
    | (go_at_call 14; refine (Feed_begun hb1).mono ?_; rintro e w2 ⟨A2, n2, c2, rfl, hb2, hbl2⟩)
    | (go_at_call 15; refine (Done_any hb2).mono ?_; rintro e w3 ⟨rfl, rfl⟩)
    | (go_at_call 16; refine (Data_any hb2 (by decide)).mono ?_; rintro e w4 ⟨A4, n4, c4, rfl, ho4, hbl4⟩; have hs4 := str_rd ho4.rd))
  go_ret
  exact ⟨rfl, hbl1.trans (hbl2.trans (hbl4.mono (Nat.le_of_lt (Nat.lt_of_lt_of_le hb1.lt hbl2.size))))⟩

end Go.Proofs.YthijpbakhnakeaaDoor
