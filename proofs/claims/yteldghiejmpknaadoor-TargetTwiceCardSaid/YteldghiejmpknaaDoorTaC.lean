/-
  A strings.Builder of one's own: copyCheck, WriteByte (the dump's copyCheck lacks its panic, so the shelf's laying falls; these are walks of mine).
-/
import Derived.Test.YteldghiejmpknaaDoorTaB
import Derived.Shelf.Strings.Builder1
namespace Go.Proofs.YteldghiejmpknaaDoor
open Go.RowKit

theorem size_bd : (Tryd.prog.info? 54).map (·.size) = some 2 := by kernel_rfl
theorem lies_bd : liesAt Tryd.prog Tryd.prog.depth 54 (2 / Tryd.prog.cellsOf 54) 0 54 1 = true := by kernel_rfl
theorem info_bt : (Tryd.prog.info? 5).map (fun i => (i.zero, i.size, i.bytes)) = some (some (.int .u8 0), 1, 1) := by kernel_rfl

set_option maxHeartbeats 1000000 in
set_option maxRecDepth 100000 in
theorem check_used (b : Nat) (w : World) (h0 : w.cell? ⟨b, 0, none⟩ = some (.pointer (some ⟨b, 0, none⟩))) :
    Calls Tryd.prog 35 #[.pointer (some ⟨b, 0, none⟩)] w fun e w' => e = .returned (.tuple #[]) ∧ w' = w := by
  obtain ⟨j, hj, _⟩ := Option.map_eq_some_iff.1 size_bd
  go_enter Tryd.func35, Tryd.ntmps35
  go_wp2
  rw [Lib.run_neq_ptr_same w _ Tryd.underlying52 hj]
  go_wp2
  go_end0
  exact ⟨rfl, rfl⟩

set_option maxHeartbeats 1000000 in
set_option maxRecDepth 100000 in
theorem check_fresh (b : Nat) (w : World) (h0 : w.cell? ⟨b, 0, none⟩ = some (.pointer none)) (hsh : w.shape? b = some (54, 2)) (hfz : w.frozen? ⟨b, 0, none⟩ = false) :
    Calls Tryd.prog 35 #[.pointer (some ⟨b, 0, none⟩)] w fun e w' => e = .returned (.tuple #[]) ∧ w' = w.setCell ⟨b, 0, none⟩ (.pointer (some ⟨b, 0, none⟩)) := by
  obtain ⟨j, hj, hjs⟩ := Option.map_eq_some_iff.1 size_bd
  go_enter Tryd.func35, Tryd.ntmps35
  go_wp2
  rw [Lib.run_to_unsafe w ⟨b, 0, none⟩ Tryd.underlying52 Tryd.underlying72 hj (by rw [hjs]; decide) hsh (Nat.zero_lt_succ 1)]
  simp only [Result.andThen]
  rw [Oper.upon_value]
  go_wp2
  rw [run_callFunc_extern Tryd.func42 (by kernel_rfl) (by kernel_rfl) (by kernel_rfl) (e := Extern.AbiNoEscape.same) (by kernel_rfl)]
  rw [Lib.run_noEscape]
  simp only [Result.andThen]
  rw [Oper.upon_value]
  go_wp2
  rw [Lib.run_from_unsafe w ⟨b, 0, none⟩ Tryd.underlying72 Tryd.underlying52 hj hsh lies_bd]
  simp only [Result.andThen]
  rw [Oper.upon_value]
  go_wp2
  go_end0
  exact ⟨rfl, rfl⟩

/-- Blocks that are neither the builder's own nor rows of bytes stand. -/
def Spares (b : Nat) (w w' : World) : Prop := ∀ k, k < w.heap.size → k ≠ b → (∀ cs fr, w.heap[k]? ≠ some (.cells cs 5 fr)) → w'.heap[k]? = w.heap[k]?
theorem Spares.refl (b : Nat) (w : World) : Spares b w w := fun k _ _ _ => rfl
theorem Spares.trans {b : Nat} {w w1 w2 : World} (h : Spares b w w1) (h2 : Spares b w1 w2) (hs : w.heap.size ≤ w1.heap.size) : Spares b w w2 := fun k hk hb hn => by
  have e := h k hk hb hn
  exact (h2 k (by omega) hb (fun cs fr => by rw [e]; exact hn cs fr)).trans e
theorem setCell_ne {w : World} {g i k : Nat} (v : Value) (h : g ≠ k) : (w.setCell ⟨g, i, none⟩ v).heap[k]? = w.heap[k]? := by
  simp [World.setCell, Array.getElem?_modify, h]
theorem check_any (B b : Nat) (bs : List Value) (w : World) (h : Lib.IsBuilder 54 5 B b bs w) :
    Calls Tryd.prog 35 #[.pointer (some ⟨b, 0, none⟩)] w fun e w' => e = .returned (.tuple #[]) ∧ (Lib.BuilderAt 54 5 B b (.pointer (some ⟨b, 0, none⟩)) bs w' ∧ Below B w w' ∧ ∀ k, k ≠ b → w'.heap[k]? = w.heap[k]?) := by
  rcases h with h | h
  · refine (check_fresh b w h.cell0 h.shape h.frozen0).mono ?_
    rintro e w' ⟨rfl, rfl⟩
    exact ⟨rfl, h.used _, (Below.refl B w).setCell (p := ⟨b, 0, none⟩) h.1 _, fun k hk => setCell_ne _ (Ne.symm hk)⟩
  · refine (check_used b w h.cell0).mono ?_
    rintro e w' ⟨rfl, rfl⟩
    exact ⟨rfl, h, Below.refl B _, fun k _ => rfl⟩

set_option maxHeartbeats 2000000 in
set_option maxRecDepth 100000 in
theorem writeByte_any (B b : Nat) (bs : List Value) (c : Int) (w : World) (h : Lib.IsBuilder 54 5 B b bs w) (hlen : bs.length + 1 ≤ 140737488355328) (hBw : B ≤ w.heap.size) :
    Calls Tryd.prog 24 #[.pointer (some ⟨b, 0, none⟩), .int .u8 c] w fun e w' => e = .returned .nilIface ∧ (Lib.BuilderAt 54 5 B b (.pointer (some ⟨b, 0, none⟩)) (bs ++ [.int .u8 c]) w' ∧ Below B w w' ∧ Spares b w w') := by
  obtain ⟨i0, hi, hz0, hz1, hz2⟩ := info_parts info_bt
  go_enter Tryd.func24, Tryd.ntmps24
  go_wp2_with fail
  refine (check_any B b bs _ h).mono ?_
  rintro e w1 ⟨rfl, h1, hb1, hsp1⟩
  obtain ⟨hB, v, hbk, hown, hne⟩ := h1
  have c0 : w1.cell? ⟨b, 0, none⟩ = some (.pointer (some ⟨b, 0, none⟩)) := by rw [Lib.cell_of_heap hbk]; rfl
  have c1 : w1.cell? ⟨b, 1, none⟩ = some v := by rw [Lib.cell_of_heap hbk]; rfl
  go_wp2_with (at_builtin; refine wpList_append_own _ rfl _ _ 40 rfl B 5 i0 (.int .u8 0) 1 1 Tryd.underlying40 hi hz0 hz1 hz2 rfl (by decide) _ _ _ rfl (hown.alloc _) ⟨w1.heap.size, 0, none⟩ 1 1 [.int .u8 c] rfl rfl ?c1 ?c2 ?c3 ?c4 ?c5 ?_)
  case c1 =>
    intro j u hj
    match j, hj with
    | 0, hj => simp at hj; subst hj; simp [Addr.add]
  case c2 => intro u hu; simp at hu; subst hu; rfl
  case c3 => unfold maxLen; omega
  case c4 => omega
  case c5 => have := hb1.size; simp; omega
  intro v' w2 hown' hgrow _
  have hlt : b < w1.heap.size := by
    rcases Nat.lt_or_ge b w1.heap.size with h' | h'
    · exact h'
    · simp [Array.getElem?_eq_none h'] at hbk
  have hb2 : w2.heap[b]? = some (.cells #[.pointer (some ⟨b, 0, none⟩), v] 54 (0, 0)) := by
    rw [hgrow.block b (by simp; omega) (fun e => hne e.symm), Lib.alloc_old w1 _ b hlt]
    exact hbk
  have d0 : w2.cell? ⟨b, 0, none⟩ = some (.pointer (some ⟨b, 0, none⟩)) := by rw [Lib.cell_of_heap hb2]; rfl
  have d1 : w2.cell? ⟨b, 1, none⟩ = some v := by rw [Lib.cell_of_heap hb2]; rfl
  have f1 : w2.frozen? ⟨b, 1, none⟩ = false := Lib.frozen_of_heap hb2 1
  obtain ⟨g, cap, rfl⟩ : ∃ g cap, v' = .slice (some ⟨g, 0, none⟩) (bs.length + 1) cap := by
    rcases hown'.2 with ⟨_, h0⟩ | ⟨g, cap, cur, hv, _⟩
    · omega
    · exact ⟨g, cap, hv⟩
  go_wp2
  go_ret
  refine ⟨rfl, ?_, ?_, fun k hk hkb hn => ?_⟩
  rotate_left 2
  · have e1 := hsp1 k hkb
    have hk1 : k < w1.heap.size := Nat.lt_of_lt_of_le hk hb1.size
    have e2 : w2.heap[k]? = w1.heap[k]? := by
      rw [hgrow.block k (by simp; omega) (fun e => ?_), Lib.alloc_old w1 _ k hk1]
      rcases hown.2 with ⟨rfl, _⟩ | ⟨g', cap', cur', rfl, _, hh, _⟩
      · cases e
      · have : k = g' := by simpa [Value.ownBlock] using e
        subst this
        exact hn _ _ (e1.symm.trans hh)
    exact (setCell_ne _ (Ne.symm hkb)).trans (e2.trans e1)
  · exact Lib.BuilderAt.put (T := 54) (e := 5) hB hb2 (bs' := bs ++ [.int .u8 c]) (by simpa using hown') (by decide)
  · exact ((hb1.alloc (by have := hb1.size; omega) _).grown hgrow (by have := hb1.size; simp; omega) (fun k hk => (hown.lt k hk).1)).setCell (p := ⟨b, 1, none⟩) hB _

end Go.Proofs.YteldghiejmpknaaDoor
