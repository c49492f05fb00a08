/-
  Joined texts of this claim's author (each began as a text of its own; each says itself what it holds).
-/
import Derived.Test.YtckkmdigmecagaaGreatDoorG00
import Derived.Test.YtckkmdigmecagaaGreatDoorG02
import Derived.Test.YtckkmdigmecagaaGreatDoorG05
import Derived.BigQuiet
import Derived.Test.YtckkmdigmecagaaGreatDoorG01
import Derived.Deep.CutRange
import Derived.Test.YtckkmdigmecagaaGreatDoorG04
import Derived.Test.YtckkmdigmecagaaGreatDoorG03
import Derived.Great.BuildSlice
import Derived.HandedShaped
import Derived.LaidMore
set_option linter.unusedVariables false
set_option linter.unusedSimpArgs false

/-
  Slices of slices of bytes: a row at a place; cofferlaw0's Sum.
-/
namespace Go.Proofs.YtckkmdigmecagaaGreatDoor
open Go.RowKit

theorem er : ElemT Tryz.prog 22 27 (.slice none 0 0) 1 24 := ElemT.of Tryz.underlying22 (by kernel_rfl) rfl (by omega)

theorem Rows2.keep {w w' : World} {A : Option Addr} {n c : Nat} {ll : List Row} (h : Rows2 w A n c ll) (h1 : Below w.heap.size w w') : Rows2 w' A n c ll := ⟨h.rd.below h1, fun r hr => (h.each r hr).below h1⟩
theorem Rows2.len {w : World} {A : Option Addr} {n c : Nat} {ll : List Row} (h : Rows2 w A n c ll) : ll.length = n := by simpa using h.rd.len
theorem Rows2.at {w : World} {A : Option Addr} {n c : Nat} {ll : List Row} (h : Rows2 w A n c ll) (J : Int) (k : Nat) (hJ : J = k) (hk : k < n) :
    ∃ r, Hid (ll[k]? = some r) ∧ (∀ W, (Instr.indexAt 22 (.slice A n c) (.int .i64 J)).run Tryz.prog W = .ok (.pointer (some (at_ A k))) W) ∧
      w.cell? (at_ A k) = some (.slice r.A r.n r.c) ∧ Rd w 1 r.A r.n r.c (r.l.map b8) ∧ r.n ≤ maxLen := by
  subst hJ
  have hl := h.len
  have hkl : k < ll.length := by omega
  have hr := h.each ll[k] (List.getElem_mem hkl)
  refine ⟨ll[k], List.getElem?_eq_getElem hkl, fun W => by simpa using run_index_rd er h.rd.nil h.rd.le k hk W, h.rd.cell k _ ?_, hr, Nat.le_trans hr.le hr.max⟩
  rw [List.getElem?_map, List.getElem?_eq_getElem hkl]
  rfl

/-- How many bytes; at most a little more than most. -/
def sumP (most : Nat) : Nat → List Row → Nat
  | acc, [] => acc
  | acc, r :: ll => if most < acc then acc else if most < r.n then most + 1 else sumP most (acc + r.n) ll
theorem sumP_drop {most : Nat} {ll : List Row} {j : Nat} {r : Row} (h : ll[j]? = some r) (acc : Nat) : sumP most acc (ll.drop j) = if most < acc then acc else if most < r.n then most + 1 else sumP most (acc + r.n) (ll.drop (j + 1)) := by
  obtain ⟨hj, rfl⟩ := List.getElem?_eq_some_iff.1 h
  rw [List.drop_eq_getElem_cons hj, sumP]
theorem sumP_over {most : Nat} {ll : List Row} {acc : Nat} (h : most < acc) : sumP most acc ll = acc := by
  cases ll with
  | nil => rfl
  | cons r ll => rw [sumP, if_pos h]

set_option maxHeartbeats 1000000 in
theorem Sum_any {w : World} {A : Option Addr} {n c : Nat} {ll : List Row} (h : Rows2 w A n c ll) (most : Nat) (hm : most ≤ 1073741824) :
    Calls Tryz.prog 22 #[.slice A n c, .int .i64 (most : Int)] w fun e w' => e = .returned (.int .i64 (sumP most 0 ll : Nat)) ∧ w = w' := by
  have hl := h.len
  have hnm : n ≤ maxLen := Nat.le_trans h.rd.le h.rd.max
  unfold maxLen at hnm
  go_enter Tryz.func22, Tryz.ntmps22
  go_wp2_with fail
  go_loop [5, 6] (fun a i => ∃ (j acc : Nat), j ≤ n ∧ acc ≤ 2 * 1073741824 ∧ a = .int .i64 acc ∧ i = .int .i64 j ∧ Hid (sumP most 0 ll = sumP most acc (ll.drop j))) (fun _ i => n - (intOf i).toNat)
  case atStart => exact ⟨0, 0, by omega, by omega, rfl, rfl, by simp [Hid]⟩
  case round =>
    obtain ⟨j, acc, hj, hacc, rfl, rfl, hH⟩ := hrel
    by_cases hjn : j < n
    · by_cases ha : (acc : Int) ≤ most
      · obtain ⟨r, hr, hidx, hcell, hrd, hrm⟩ := h.at (j : Int) j rfl hjn
        unfold maxLen at hrm
        by_cases hrn : (most : Int) < r.n
        · go_wp2_with fail
          go_ret
          refine ⟨?_, rfl⟩
          rw [hH.out, sumP_drop hr.out, if_neg (by omega), if_pos (by omega)]
          rfl
        · go_wp2_with fail
          refine ⟨⟨j + 1, acc + r.n, by omega, by omega, by go_num, by go_num, ?_⟩, by simp [intOf]; omega⟩
          show _ = _
          rw [hH.out, sumP_drop hr.out, if_neg (by omega), if_neg (by omega)]
      · go_wp2_with fail
        go_ret
        refine ⟨?_, rfl⟩
        rw [hH.out, sumP_over (by omega)]
        rfl
    · go_wp2_with fail
      go_ret
      refine ⟨?_, rfl⟩
      rw [hH.out, List.drop_eq_nil_of_le (by omega)]
      rfl

end Go.Proofs.YtckkmdigmecagaaGreatDoor

/-
  The document's answer to chunk: a sized body; what all pieces hold together.
-/
namespace Go.Proofs.YtckkmdigmecagaaGreatDoor
open Go.RowKit

theorem told_stN (k : Nat) (l : List UInt8) : toldP (feedP (stN k) l) = if k ≤ l.length then ((k : Int), l.take k, 0) else (-1, l, 0) := by
  unfold stN
  by_cases h : k = 0
  · subst h
    rw [if_pos rfl, feedP_stop (.inl rfl), if_pos (Nat.zero_le _), told_done]
    rfl
  · rw [if_neg h, feed_plain l k [] (by omega)]
    by_cases h2 : l.length < k
    · rw [if_pos h2, if_neg (by omega)]
      simp [toldP]
    · rw [if_neg h2, if_pos (by omega), told_done, List.nil_append]

theorem RSized_any {w : World} (B : Option Addr) (m d : Nat) (l : List UInt8) (hl : Rd w 1 B m d (l.map b8)) (hm : m ≤ 1048576) (k : Nat) (hk : k ≤ 4096) :
    Calls Tryz.prog 28 #[.slice B m d, .int .i64 (k : Int)] w fun e w' => ∃ n', e = .returned (.agg #[.int .i64 (toldP (feedP (stN k) l)).1, .slice B n' d, .int .i64 (toldP (feedP (stN k) l)).2.2]) ∧ Rd w 1 B n' d ((toldP (feedP (stN k) l)).2.1.map b8) ∧ Below w.heap.size w w' := by
  have hlen := hl.lenb
  have hld := hl.le
  by_cases h : k ≤ m
  · have hT := Lib.hid ((told_stN k l).trans (if_pos (by omega)))
    have hr : Rd w 1 B k d ((l.take k).map b8) := by
      refine ⟨by simp; omega, by omega, hl.max, hl.nil, fun j u hu => hl.cell j u ?_⟩
      rw [List.map_take, List.getElem?_take] at hu
      split at hu
      · exact hu
      · cases hu
    have hsl := run_slice_h_rd (P := Tryz.prog) (A := B) (n := m) (c := d) eb (kh := .i64) k (H := (k : Int)) rfl (by omega)
    have h' : (k : Int) ≤ m := by omega
    go_enter Tryz.func28, Tryz.ntmps28
    go_wp2_with fail
    refine bodyPost_ret (results_cell_row rfl _ _ w.heap.size _ _ _ _ rfl (heap_new _ _) Tryz.underlying71 rfl (by kernel_rfl)) rfl ?_
    rw [hT.out]
    exact ⟨k, rfl, hr, (Below.refl _ _).alloc (Nat.le_refl _) _⟩
  · have hT := Lib.hid ((told_stN k l).trans (if_neg (by omega)))
    have h' : (m : Int) < k := by omega
    go_enter Tryz.func28, Tryz.ntmps28
    go_wp2_with fail
    refine bodyPost_ret (results_cell_row rfl _ _ w.heap.size _ _ _ _ rfl (heap_new _ _) Tryz.underlying71 rfl (by kernel_rfl)) rfl ?_
    rw [hT.out]
    exact ⟨m, rfl, hl, (Below.refl _ _).alloc (Nat.le_refl _) _⟩

/-- How many bytes all pieces have. -/
def tot (ll : List Row) : Nat := (ll.map Row.n).sum
theorem tot_le {most : Nat} : ∀ (ll : List Row) (acc : Nat), sumP most acc ll ≤ most → acc + tot ll ≤ most
  | [], acc, h => h
  | r :: ll, acc, h => by
    rw [sumP] at h
    split at h
    · omega
    · split at h
      · omega
      · have := tot_le ll _ h
        simp only [tot, List.map_cons, List.sum_cons] at this ⊢
        omega
theorem tot_drop {ll : List Row} {j : Nat} {r : Row} (h : ll[j]? = some r) : tot (ll.drop j) = r.n + tot (ll.drop (j + 1)) := by
  obtain ⟨hj, rfl⟩ := List.getElem?_eq_some_iff.1 h
  rw [List.drop_eq_getElem_cons hj]
  simp only [tot, List.map_cons, List.sum_cons]

end Go.Proofs.YtckkmdigmecagaaGreatDoor

/-
  The laws of layer 23: feeds.
-/
namespace Go.Proofs.YtckkmdigmecagaaGreatDoor
open Go.RowKit

theorem Rows2.row {w : World} {A : Option Addr} {n c k : Nat} {ll : List Row} {r : Row} (h : Rows2 w A n c ll) (hx : ll[k]? = some r) : w.cell? (at_ A k) = some (.slice r.A r.n r.c) ∧ Rd w 1 r.A r.n r.c (r.l.map b8) :=
  ⟨h.rd.cell k _ (by rw [List.getElem?_map, hx]; rfl), h.each r (List.mem_of_getElem? hx)⟩
theorem Own.but {S : Nat → Prop} {w w' : World} {base size n c : Nat} {e : TypeId} {A : Option Addr} {xs : List Value} (h : Own w base e size A n c xs) (hb : But S w w') (hS : ∀ k, blk A = some k → ¬ S k) : Own w' base e size A n c xs :=
  h.keep fun g hg _ hlt => hb.block g hlt (hS g hg)
theorem Body.grown {w w' : World} {base g : Nat} {A : Option Addr} {n c : Nat} {s : St} {row : Option Nat} (h : Body w base g A n c s) (hg : w.grownBy w' row) (h1 : row ≠ some g) (h2 : ∀ k, blk A = some k → row ≠ some k) : Body w' base g A n c s :=
  h.keep (hg.block g h.lt (fun e => h1 e.symm)) fun k hk => hg.block k (h.row.lt k hk).2 (fun e => h2 k hk e.symm)
/-- The front of a twin. -/
theorem twin_front {w : World} {A : Option Addr} {n : Nat} {l : List UInt8} (h : Rd w 1 A (n + 3) (n + 3) ((l ++ e5).map b8)) (hl : l.length = n) : Rd w 1 A n (n + 3) (l.map b8) :=
  ⟨by simpa using hl, by omega, h.max, h.nil, fun j u hu => h.cell j u (by
    rw [List.map_append, List.getElem?_append_left (List.getElem?_eq_some_iff.1 hu).1]
    exact hu)⟩
theorem told_cells {w : World} {g : Nat} {v0 v1 v2 : Value} {t : TypeId} (h : w.heap[g]? = some (.cells #[v0, v1, v2] t (0, 0))) :
    w.cell? ⟨g, 0, none⟩ = some v0 ∧ w.cell? ⟨g, 1, none⟩ = some v1 ∧ w.cell? ⟨g, 2, none⟩ = some v2 ∧ w.frozen? ⟨g, 0, none⟩ = false ∧ w.frozen? ⟨g, 1, none⟩ = false ∧ w.frozen? ⟨g, 2, none⟩ = false :=
  ⟨cell_of h rfl, cell_of h rfl, cell_of h rfl, frozen_of h, frozen_of h, frozen_of h⟩

/-- How Feed's answer and the document's hang together: N bytes taken, the error E, the state, what the document tells. -/
theorem feed_told {s0 s : St} {all l : List UInt8} {na : Nat} (hF : feedP s0 all = (na, s)) (hna : all.length = na) (hb : s.bd = 0) :
    ∃ k : Nat, feedN s l = (k : Int) ∧ k ≤ l.length ∧
      ((∃ E : Int, E ≠ 0 ∧ (feedP s l).2.bd = E ∧ k = 0 ∧ (finP (feedP s l).2).bd = E ∧ ((finP (feedP s l).2).nx == 9) = false ∧ (finP (feedP s l).2).got = [] ∧ toldP (feedP s0 (all ++ l)) = (0, [], E)) ∨
       (feedP s l).2.bd = 0 ∧ (finP (feedP s l).2).bd = 0 ∧ feedP s0 ((all ++ l).take (na + k)) = (na + k, finP (feedP s l).2) ∧
        ((((finP (feedP s l).2).nx == 9) = true ∧ toldP (feedP s0 (all ++ l)) = (((na + k : Nat) : Int), (finP (feedP s l).2).got, 0)) ∨
         (((finP (feedP s l).2).nx == 9) = false ∧ k = l.length ∧ toldP (feedP s0 (all ++ l)) = (-1, (finP (feedP s l).2).got, 0)))) := by
  have ha : feedP s0 (all ++ l) = ((feedP s l).1 + na, (feedP s l).2) := by
    have := feedP_append (s' := s) all s0 l (by rw [hF, hna])
    rw [hna] at this
    exact this
  have ht := feedP_take (all ++ l) s0
  rw [ha] at ht
  have hle := feedP_le l s
  have hall := feedP_all l s
  have herr := feedP_err l s (fun h => absurd hb h)
  obtain ⟨k', s', hks⟩ : ∃ k' s', feedP s l = (k', s') := ⟨_, _, rfl⟩
  rw [ha]
  unfold feedN
  rw [hks] at ht hle hall herr ⊢
  dsimp only at ht hle hall herr ⊢
  by_cases hbd : s'.bd = 0
  · rw [if_pos hbd]
    have hfin : finP s' = s' := if_pos hbd
    rw [hfin]
    refine ⟨k', rfl, hle, .inr ⟨hbd, hbd, ?_, ?_⟩⟩
    · rw [Nat.add_comm na k']
      exact ht
    · by_cases h9 : s'.nx = 9
      · refine .inl ⟨by simpa using h9, ?_⟩
        unfold toldP
        rw [if_pos hbd, if_pos h9, Nat.add_comm na k']
      · refine .inr ⟨by simpa using h9, hall h9 hbd, ?_⟩
        unfold toldP
        rw [if_pos hbd, if_neg h9]
  · rw [if_neg hbd]
    have hfin : finP s' = { s' with got := [] } := if_neg hbd
    rw [hfin]
    refine ⟨0, rfl, Nat.zero_le _, .inl ⟨s'.bd, hbd, rfl, rfl, rfl, by simpa using herr hbd, rfl, ?_⟩⟩
    unfold toldP
    rw [if_neg hbd]
theorem fin_ok {s : St} (h : Ok s) : Ok (finP s) := by
  unfold finP
  split
  · exact h
  · exact ⟨h.nx1, h.nx9, h.lf0, h.lf1, h.dg0, h.dg8, by simp, h.size, fun e => by obtain ⟨e1, e2, e3⟩ := h.data e; exact ⟨e1, by simp; omega, e3⟩, h.ends⟩

theorem Done_below {w : World} {base g : Nat} {A : Option Addr} {n c : Nat} {s : St} (hb : Body w base g A n c s) {b : Bool} (h : (s.nx == 9) = b) :
    Calls Tryz.prog 36 #[.pointer (some ⟨g, 0, none⟩)] w fun e w' => e = .returned (.bool b) ∧ Below w.heap.size w w' :=
  (Done_any hb).mono fun e w' ⟨h1, h2⟩ => by
    subst h2
    rw [h] at h1
    exact ⟨h1, Below.refl _ _⟩

end Go.Proofs.YtckkmdigmecagaaGreatDoor

/-
  The laws ChunkChunked and ChunkSized.
-/
namespace Go.Proofs.YtckkmdigmecagaaGreatDoor
open Go.RowKit

theorem Body.lower {w : World} {b b' g n c : Nat} {A : Option Addr} {s : St} (h : Body w b g A n c s) (hb : b' ≤ b) : Body w b' g A n c s :=
  ⟨Nat.le_trans hb h.ge, h.obj, h.row.lower hb, h.ne⟩

theorem Sized_neg (n : Int) (w : World) (h : n < 0) : Calls Tryz.prog 64 #[.int .i64 n] w fun e w' => e = .returned (.tuple #[.pointer none, .int .i64 1]) ∧ w = w' := by
  go_enter Tryz.func64, Tryz.ntmps64
  go_wp2_with fail
  go_ret2
  exact ⟨rfl, rfl⟩
theorem Sized_long (n : Int) (w : World) (h : 4096 < n) : Calls Tryz.prog 64 #[.int .i64 n] w fun e w' => e = .returned (.tuple #[.pointer none, .int .i64 2]) ∧ w = w' := by
  have h0 : 0 ≤ n := by omega
  go_enter Tryz.func64, Tryz.ntmps64
  go_wp2_with fail
  go_ret2
  exact ⟨rfl, rfl⟩
theorem Sized_any (k : Nat) (w : World) (h : k ≤ 4096) : Calls Tryz.prog 64 #[.int .i64 (k : Int)] w fun e w' => e = .returned (.tuple #[.pointer (some ⟨w.heap.size, 0, none⟩), .int .i64 0]) ∧ Body w' w.heap.size w.heap.size none 0 0 (stN k) ∧ Below w.heap.size w w' := by
  have h1 : (k : Int) ≤ 4096 := by omega
  by_cases h0 : k = 0
  · subst h0
    have hn := Body.new w 9 0 0 0 w.heap.size (Nat.le_refl _)
    go_enter Tryz.func64, Tryz.ntmps64
    go_wp2_with fail
    go_ret2
    exact ⟨rfl, hn, (Below.refl _ _).alloc (Nat.le_refl _) _⟩
  · have hn := Body.new w 1 k 0 0 w.heap.size (Nat.le_refl _)
    have hs : stN k = ⟨1, k, 0, 0, []⟩ := if_neg h0
    have h0' : ((k : Int) == 0) = false := by simpa using h0
    rw [hs]
    clear hs h0
    go_enter Tryz.func64, Tryz.ntmps64
    go_wp2_with fail
    go_ret2
    exact ⟨rfl, hn, (Below.refl _ _).alloc (Nat.le_refl _) _⟩

theorem stN_done (k : Nat) : ((stN k).nx == 9) = ((k : Int) == 0) := by
  unfold stN
  by_cases h : k = 0
  · subst h
    rfl
  · rw [if_neg h]
    have : ((k : Int) == 0) = false := by simpa using h
    rw [this]
    rfl
theorem stN_got (k : Nat) : (stN k).bd = 0 := by
  unfold stN
  split <;> rfl

end Go.Proofs.YtckkmdigmecagaaGreatDoor

/-
  Package wire: a head that is whole.
-/
namespace Go.Proofs.YtckkmdigmecagaaGreatDoor
open Go.RowKit

/-- What of a wire's fields a walk needs. -/
structure WFz (x : WSt) : Prop where
  fs : x.fs.length ≤ 32
  fz : ∀ f ∈ x.fs, f.1.length ≤ 1024 ∧ f.2.length ≤ 1024 ∧ ∀ y ∈ f.2, y.toNat < 128
theorem WOk.toF {x : WSt} (h : WOk x) : WFz x := ⟨h.fs, h.fz⟩
theorem get_snd (fs : List Fl.Fd) (s : Bs) : (Fl.getF fs s).2 = 0 ∨ (Fl.getF fs s).2 = 5 ∨ (Fl.getF fs s).2 = 6 := by
  unfold Fl.getF
  split
  · exact .inr (.inl rfl)
  · split
    · exact .inl rfl
    · exact .inr (.inr rfl)
theorem get_val {fs : List Fl.Fd} {s : Bs} {p : Bs → Prop} (h0 : p []) (h : ∀ f ∈ fs, p f.2) : p (Fl.getF fs s).1 := by
  unfold Fl.getF
  split
  · exact h0
  · split
    · cases hf : fs.find? (Fl.isF s) with
      | none => exact h0
      | some f => exact h f (List.mem_of_find?_eq_some hf)
    · exact h0
theorem low_eq : ∀ c : Fin 256, c.1 < 128 → Lib.lowerB (UInt8.ofNat c.1) = Fl.lowB (UInt8.ofNat c.1) := by decide +kernel
theorem small_eq {l : Bs} (h : ∀ x ∈ l, x.toNat < 128) : Lib.toLowerA l = Fl.smallL l := by
  unfold Lib.toLowerA Fl.smallL
  refine List.map_congr_left fun x hx => ?_
  have h1 := low_eq ⟨x.toNat, x.toNat_lt⟩ (h x hx)
  simpa using h1
theorem WStep.of_below {w w' : World} {base g : Nat} {x : WSt} {m : WMem} (h : WireB w base g x m) (hb : Below w.heap.size w w') : WStep w base g m w' x := ⟨m, h.below hb, But.of_below hb, fun _ hk => .inl hk⟩
theorem mx_but {S : Nat → Prop} {w w' : World} (h : Mx w) (hb : But S w w') (hS : ∀ q, S q → mxb < q) : Mx w' := by
  obtain ⟨M, hM⟩ := h
  have hlt := World.block_lt_of_cell? w _ hM
  exact ⟨M, by rw [← hM]; exact World.cell?_of_block (hb.block mxb hlt (fun h => by have := hS mxb h; omega))⟩
theorem closes_snoc {fs : List Fl.Fd} {k : Nat} {f : Fl.Fd} (hx : fs[k]? = some f) : closesF (fs.take (k + 1)) = (closesF (fs.take k) || (f.1 == coW && (Fl.wordsF (split1 44 f.2)).contains closeW)) := by
  obtain ⟨h1, e1⟩ := List.getElem?_eq_some_iff.1 hx
  rw [List.take_succ_eq_append_getElem h1, e1]
  simp [closesF]
theorem contains_snoc {l : List Bs} {k : Nat} {p y : Bs} (hx : l[k]? = some p) : (l.take (k + 1)).contains y = ((l.take k).contains y || p == y) := by
  obtain ⟨h1, e1⟩ := List.getElem?_eq_some_iff.1 hx
  rw [List.take_succ_eq_append_getElem h1, e1, Bool.eq_iff_iff, List.contains_iff_mem, Bool.or_eq_true, List.contains_iff_mem, List.mem_append, List.mem_singleton, beq_iff_eq]
  exact or_congr Iff.rfl eq_comm
def Emptied (x : WSt) (w : World) (base g : Nat) (m : WMem) (e : Ending) (w' : World) : Prop :=
  e = .returned (.int .i64 (emptyF x.fs).1) ∧ ∃ y, WStep w base g m w' y ∧ ((emptyF x.fs).1 = 0 → ∃ st, (emptyF x.fs).2 = some st ∧ y = { x with kp := x.kp && !closesF x.fs, bo := some st, nx := 3 })
theorem emptied_bad {x : WSt} {w w' : World} {base g : Nat} {m : WMem} {E : Int} {o : Option St} (h : WireB w base g x m) (hE : emptyF x.fs = (E, o)) (h0 : E ≠ 0) (hb : Below w.heap.size w w') : Emptied x w base g m (.returned (.int .i64 E)) w' := by
  refine ⟨by rw [hE], x, WStep.of_below h hb, fun h1 => ?_⟩
  rw [hE] at h1
  exact absurd h1 h0

set_option maxRecDepth 20000 in
set_option maxHeartbeats 8000000 in
theorem empty_any {w : World} {base g : Nat} {x : WSt} {m : WMem} (h : WireB w base g x m) (hk : WFz x) (hbo : x.bo = none) (hm : Mx w) (h0 : mxb < base) :
    Calls Tryz.prog 51 #[.pointer (some ⟨g, 0, none⟩)] w (Emptied x w base g m) := by
  have hfl : x.fs.length = m.nF := Fl.Fds.len (show Fl.Fds w m.F m.nF m.cF x.fs from h.fs.rd)
  have hn32 : m.nF ≤ 32 := by have := hk.fs; omega
  have HF := Lib.hid (fun W (hb : Below w.heap.size w W) => (Rd.below h.fs.rd hb : Fl.Fds W m.F m.nF m.cF x.fs))
  have HG1 := Lib.hid (fun W (hb : Below w.heap.size w W) => Fl.Get_any (HF.out W hb) (by omega) teW)
  have HG2 := Lib.hid (fun W (hb : Below w.heap.size w W) => Fl.Get_any (HF.out W hb) (by omega) clW)
  have HCN := Lib.hid (fun W (hb : Below w.heap.size w W) => Fl.Count_any (HF.out W hb) (by omega) hoW)
  unfold Fl.Got at HG1 HG2
  have hsz : sizeF x.fs = if (Fl.getF x.fs clW).2 = 0 then lenF (Fl.getF x.fs clW).1 else some 0 := rfl
  have hef : emptyF x.fs = if Fl.cntF x.fs hoW ≠ 1 ∨ (Fl.getF x.fs teW).2 = 6 ∨ (Fl.getF x.fs clW).2 = 6 ∨ ((Fl.getF x.fs teW).2 = 0 ∧ (Fl.getF x.fs clW).2 = 0) ∨ sizeF x.fs = none then (4, none) else if (Fl.getF x.fs teW).2 = 0 ∧ Fl.smallL (Fl.getF x.fs teW).1 ≠ chuW then (4, none) else if 4096 < (sizeF x.fs).getD 0 then (9, none) else (0, some (if (Fl.getF x.fs teW).2 = 0 then st0 else stN ((sizeF x.fs).getD 0))) := rfl
  have e1 := get_snd x.fs teW
  have e2 := get_snd x.fs clW
  have v1 := get_val (fs := x.fs) (s := teW) (p := fun v => v.length ≤ 1024 ∧ ∀ y ∈ v, y.toNat < 128) ⟨by simp, by simp⟩ (fun f hf => (hk.fz f hf).2)
  have v2 := get_val (fs := x.fs) (s := clW) (p := fun v => v.length ≤ 1024 ∧ ∀ y ∈ v, y.toNat < 128) ⟨by simp, by simp⟩ (fun f hf => (hk.fz f hf).2)
  obtain ⟨⟨V1, E1⟩, hV1⟩ : ∃ r, Fl.getF x.fs teW = r := ⟨_, rfl⟩
  obtain ⟨⟨V2, E2⟩, hV2⟩ : ∃ r, Fl.getF x.fs clW = r := ⟨_, rfl⟩
  obtain ⟨C, hC⟩ : ∃ C, Fl.cntF x.fs hoW = C := ⟨_, rfl⟩
  obtain ⟨S, hS⟩ : ∃ S, sizeF x.fs = S := ⟨_, rfl⟩
  rw [hV1] at HG1 hef e1 v1
  rw [hV2] at HG2 hef e2 v2 hsz
  rw [hC] at HCN hef
  rw [hS] at hef hsz
  dsimp only at HG1 HG2 hef hsz e1 e2 v1 v2
  have HEF := Lib.hid hef
  have HSZ := Lib.hid hsz
  have HV1 := Lib.hid v1
  have HV2 := Lib.hid v2
  have HB := Lib.hid h
  obtain ⟨c0, c1, c2, c3, c4, c5, c6, c7⟩ := h.cells
  unfold teW at HG1
  unfold clW at HG2
  unfold hoW at HCN
  clear hV1 hV2 hC hS hef hsz v1 v2 h
  go_enter Tryz.func51, Tryz.ntmps51
  go_wp2_with fail
  refine (HG1.out w (Below.refl _ _)).mono ?_
  rintro e w1 ⟨rfl, hb1⟩
  go_wp2_with fail
  refine (HG2.out w1 hb1).mono ?_
  rintro e w2 ⟨rfl, hbl2⟩
  have hb2 := hb1.trans (hbl2.mono hb1.size)
  clear hbl2 hb1 c1 c2 c3 c5
  go_upto_if 30 with fail
  go_cut [8, 9] from 30 to 35 (fun nv ov wx => nv = .int .i64 ((S.getD 0 : Nat) : Int) ∧ ov = .bool S.isSome ∧ S.getD 0 < 1000000000000000000 ∧ w2 = wx)
  case first =>
    rcases e2 with rfl | rfl | rfl
    · have HL := Lib.hid (length_any V2 (by have := HV2.out.1; omega) w2)
      have hs := HSZ.out
      rw [if_pos rfl] at hs
      unfold Lengthed at HL
      rw [← hs] at HL
      clear hs
      go_wp2_with fail
      refine HL.out.mono ?_
      rintro e w3 ⟨rfl, hr⟩
      rcases hr with ⟨rfl, rfl⟩ | ⟨v, rfl, hv, rfl⟩
      · go_wp2_with fail
        go_meet
        exact ⟨rfl, rfl, by decide, rfl⟩
      · go_wp2_with fail
        go_meet
        exact ⟨rfl, rfl, hv, rfl⟩
    · have hs := HSZ.out
      rw [if_neg (by decide)] at hs
      subst hs
      go_wp2_with fail
      go_meet
      exact ⟨rfl, rfl, by decide, rfl⟩
    · have hs := HSZ.out
      rw [if_neg (by decide)] at hs
      subst hs
      go_wp2_with fail
      go_meet
      exact ⟨rfl, rfl, by decide, rfl⟩
  case rest =>
    obtain ⟨rfl, rfl, hS18, rfl⟩ := hcut
    go_upto_block 0 with fail
    go_cut [36] from 36 to 62 (fun _ wx => Hid (S.isSome = true ∧ S.getD 0 ≤ 4096 ∧ emptyF x.fs = (0, some (if E1 = 0 then st0 else stN (S.getD 0)))) ∧ (E1 = 0 ∨ E1 = 5) ∧ Below w.heap.size w wx)
    case first =>
      go_wp2_with fail
      refine (HCN.out w2 hb2).mono ?_
      rintro e w3 ⟨rfl, hbl3⟩
      have hb3 := hb2.trans (hbl3.mono hb2.size)
      by_cases hC : C = 1
      · subst hC
        have hE : (¬ (E1 = 6 ∨ E2 = 6 ∨ E1 = 0 ∧ E2 = 0 ∨ S = none)) → (¬ (E1 = 0 ∧ Fl.smallL V1 ≠ chuW)) → ¬ 4096 < S.getD 0 → emptyF x.fs = (0, some (if E1 = 0 then st0 else stN (S.getD 0))) := fun a b c => HEF.out.trans ((if_neg (fun h => by rcases h with h | h; exact absurd rfl h; exact a h)).trans ((if_neg b).trans (if_neg c)))
        have HOK := Lib.hid hE
        clear hE
        rcases e1 with rfl | rfl | rfl
        · rcases e2 with rfl | rfl | rfl
          · have HE := Lib.hid (HEF.out.trans (if_pos (.inr (.inr (.inr (.inl ⟨rfl, rfl⟩))))))
            go_wp2_with fail
            go_ret
            exact emptied_bad HB.out HE.out (by decide) hb3
          · have hs := HSZ.out
            rw [if_neg (by decide)] at hs
            subst hs
            have hlow := small_eq HV1.out.2
            have HTL : Hid (∀ W, Calls Tryz.prog 61 #[.string ⟨V1.toArray⟩] W fun e w' => e = .returned (.string ⟨(Fl.smallL V1).toArray⟩) ∧ Below W.heap.size W w') := fun W => by
              have h1 := Tryz.strings_ToLower_ascii ⟨V1.toArray⟩ W (by rw [size_mk]; have := HV1.out.1; omega) (fun j b hb => HV1.out.2 b (List.mem_of_getElem? hb))
              rw [← hlow]
              exact h1
            by_cases hch : Fl.smallL V1 = chuW
            · have HE := Lib.hid (HOK.out (by decide) (fun h => h.2 hch) (by decide))
              rw [hch] at HTL
              unfold chuW at HTL
              clear hch hlow
              go_wp2_with fail
              refine (HTL.out _).mono ?_
              rintro e w4 ⟨rfl, hbl4⟩
              have hb4 := hb3.trans (hbl4.mono hb3.size)
              go_wp2_with fail
              go_meet
              exact ⟨⟨rfl, by decide, HE.out⟩, by simp, hb4⟩
            · have HE := Lib.hid (HEF.out.trans ((if_neg (by decide)).trans (if_pos ⟨rfl, hch⟩)))
              have hd : (Fl.smallL V1 == [99, 104, 117, 110, 107, 101, 100]) = false := by simpa [chuW] using hch
              clear hch hlow
              go_wp2_with fail
              refine (HTL.out _).mono ?_
              rintro e w4 ⟨rfl, hbl4⟩
              have hb4 := hb3.trans (hbl4.mono hb3.size)
              go_wp2_with fail
              go_ret
              exact emptied_bad HB.out HE.out (by decide) hb4
          · have HE := Lib.hid (HEF.out.trans (if_pos (.inr (.inr (.inl rfl)))))
            go_wp2_with fail
            go_ret
            exact emptied_bad HB.out HE.out (by decide) hb3
        · rcases e2 with rfl | rfl | rfl
          · cases S with
            | none =>
              have HE := Lib.hid (HEF.out.trans (if_pos (.inr (.inr (.inr (.inr rfl))))))
              go_wp2_with fail
              go_ret
              exact emptied_bad HB.out HE.out (by decide) hb3
            | some v =>
              by_cases hv : (4096 : Int) < v
              · have HE := Lib.hid (HEF.out.trans ((if_neg (by simp)).trans ((if_neg (fun h => absurd h.1 (by decide))).trans (if_pos (show 4096 < v by omega)))))
                have hd : decide ((4096 : Int) < v) = true := decide_eq_true hv
                have hvS : v < 1000000000000000000 := hS18
                clear hv
                go_wp2_with fail
                go_ret
                exact emptied_bad HB.out HE.out (by decide) hb3
              · have HE := Lib.hid (HOK.out (by simp) (fun h => absurd h.1 (by decide)) (show ¬ 4096 < v by omega))
                have hd : decide ((4096 : Int) < v) = false := decide_eq_false hv
                have hv4 : v ≤ 4096 := by omega
                clear hv
                go_wp2_with fail
                go_meet
                exact ⟨⟨rfl, hv4, HE.out⟩, by simp, hb3⟩
          · have hs := HSZ.out
            rw [if_neg (by decide)] at hs
            subst hs
            have HE := Lib.hid (HOK.out (by decide) (fun h => absurd h.1 (by decide)) (by decide))
            go_wp2_with fail
            go_meet
            exact ⟨⟨rfl, by decide, HE.out⟩, by simp, hb3⟩
          · have HE := Lib.hid (HEF.out.trans (if_pos (.inr (.inr (.inl rfl)))))
            go_wp2_with fail
            go_ret
            exact emptied_bad HB.out HE.out (by decide) hb3
        · have HE := Lib.hid (HEF.out.trans (if_pos (.inr (.inl rfl))))
          go_wp2_with fail
          go_ret
          exact emptied_bad HB.out HE.out (by decide) hb3
      · have hC' : ((C : Int) == 1) = false := by
          rw [beq_eq_false_iff_ne]
          omega
        have HE := Lib.hid (HEF.out.trans (if_pos (.inl hC)))
        clear hC
        go_wp2_with fail
        go_ret
        exact emptied_bad HB.out HE.out (by decide) hb3
    case rest =>
      obtain ⟨hOK, hE15, hbc⟩ := hcut
      have hWc : WStep w base g m wc x := WStep.of_below HB.out hbc
      have hB0 : WireB wc base g x m := HB.out.below hbc
      have hbut : But (m.has g) w wc := But.of_below hbc
      have HK := Lib.hid hk
      clear hWc hb2 c0 c4 c6 c7 HG1 HG2 HCN HEF HSZ HV2 e1 e2 hbc
      go_wp2_with fail
      go_loopw [65] (fun i wr => ∃ (k : Nat) (kp : Bool), k ≤ m.nF ∧ i = .int .i64 k ∧ WireB wr base g { x with kp := kp } m ∧ But (m.has g) w wr ∧ Hid (kp = (x.kp && !closesF (x.fs.take k)))) (fun i _ => m.nF - (intOf i).toNat)
      case atStart => exact ⟨0, x.kp, by omega, rfl, hB0, hbut, (show x.kp = (x.kp && !closesF []) by simp [closesF])⟩
      case round =>
        clear hB0 hbut
        obtain ⟨k, kp, hkn, rfl, hW, hbw, hH⟩ := hrel
        have hmr : Mx wr := mx_but hm hbw (fun q hq => Nat.le_trans h0 (HB.out.in_ q hq).1)
        by_cases hlt : k < m.nF
        · have hx : x.fs[k]? = some (x.fs[k]'(by omega)) := List.getElem?_eq_getElem _
          generalize x.fs[k]'(by omega) = f at hx
          have hF : Fl.Fds wr m.F m.nF m.cF x.fs := hW.fs.rd
          have hidx := fun W => hF.idx hlt W
          have HLD := Lib.hid (hF.load hx)
          have hk' : (k : Int) < m.nF := by omega
          have hfz := HK.out.fz f (List.mem_of_getElem? hx)
          obtain ⟨N, V⟩ := f
          dsimp only at hfz HLD
          go_upto_region 20 with (first
            | (refine wpList_load_run rfl _ _ rfl _ rfl _ HLD.out ?_)
            | (refine wpList_alloc_zero rfl _ rfl (Fl.fdA [] []) Fl.zero_fd ?_; intro w4 hg4 hb4 hz4; clear hz4)
            | (refine wpList_store_all rfl _ _ _ rfl wr.heap.size rfl _ _ _ rfl hg4 (Fl.size_fd _ _) rfl (Fl.fd_one _ _) ?_; intro w5 hg5 hgr5 hz5; clear hz5))
          have hb5 : Below wr.heap.size wr w5 := hb4.grown hgr5 hb4.size (fun q hq => by obtain rfl := Option.some.inj hq; exact Nat.le_refl _)
          have d0 : w5.cell? ⟨wr.heap.size, 0, none⟩ = some (.string ⟨N.toArray⟩) := Fl.cell_fd hg5 rfl
          have d1 : w5.cell? ⟨wr.heap.size, 1, none⟩ = some (.string ⟨V.toArray⟩) := Fl.cell_fd hg5 rfl
          have hW5 := hW.below hb5
          have hbw5 : But (m.has g) w w5 := hbw.trans (But.of_below hb5 : But (fun _ => False) wr w5) (fun _ h => h.elim)
          have hm5 := hmr.below hb5
          have hglt := hW.lt
          clear hg4 hb4 hgr5 hg5 hW hbw hmr HLD hidx hF
          by_cases hN : N = coW
          · subst hN
            have HWD := Lib.hid (Fl.Words_any V (by omega) w5 hm5)
            have HCS := Lib.hid (closes_snoc hx)
            obtain ⟨Wl, hWl⟩ : ∃ l, Fl.wordsF (split1 44 V) = l := ⟨_, rfl⟩
            rw [hWl] at HWD
            dsimp only at HCS
            rw [hWl] at HCS
            unfold coW at d0
            clear hx hWl hlt
            go_wp2_with fail
            refine HWD.out.mono ?_
            rintro e w6 ⟨A2, n2, c2, rfl, ho6, hbl6⟩
            have hW6 := hW5.below hbl6
            have hbw6 : But (m.has g) w w6 := hbw5.trans (But.of_below hbl6 : But (fun _ => False) w5 w6) (fun _ h => h.elim)
            have hWln : Wl.length = n2 := by have := ho6.rd.len; simpa using this
            have HWN := Lib.hid hWln
            have hlo : ∀ q, blk A2 = some q → q ≠ g := fun q hq e => by have h1 := (ho6.lt q hq).1; have h2 := hb5.size; omega
            have hnilA := ho6.rd.nil
            have hleA := ho6.rd.le
            have hmxA := ho6.rd.max
            unfold maxLen at hmxA
            have hrd6 := ho6.rd
            clear hW5 hbw5 hbl6 hWln ho6 d0 d1
            go_wp2_with fail
            go_loopw [76] (fun i wq => ∃ (j : Nat) (kq : Bool), j ≤ n2 ∧ i = .int .i64 j ∧ WireB wq base g { x with kp := kq } m ∧ But (m.has g) w wq ∧ Rd wq 1 A2 n2 c2 (Wl.map Fl.strV) ∧ Hid (kq = (kp && !(Wl.take j).contains closeW))) (fun i _ => n2 - (intOf i).toNat)
            case atStart => exact ⟨0, kp, by omega, rfl, hW6, hbw6, hrd6, (show kp = (kp && !([] : List Bs).contains closeW) by simp)⟩
            case round =>
              clear hW6 hbw6 hrd6
              obtain ⟨j, kq, hjn, rfl, hWq, hbq, hrq, hJ⟩ := hrel
              by_cases hjl : j < n2
              · have hy : Wl[j]? = some (Wl[j]'(by rw [HWN.out]; exact hjl)) := List.getElem?_eq_getElem _
                generalize Wl[j]'(by rw [HWN.out]; exact hjl) = wd at hy
                have hidx := run_index_rd (P := Tryz.prog) (A := A2) (n := n2) (c := c2) Fl.es hnilA hleA j hjl
                rw [Nat.mul_one] at hidx
                have hcx := Rd.cell hrq j (Fl.strV wd) (by rw [List.getElem?_map, hy]; rfl)
                unfold Fl.strV at hcx
                have hj' : (j : Int) < n2 := by omega
                have HCT := Lib.hid (contains_snoc (y := closeW) hy)
                obtain ⟨c0, c1, c2', c3, c4, c5, c6, c7⟩ := hWq.cells
                have hf6 := hWq.free 6
                dsimp only at c6
                have hset := fun b => hWq.setKp b
                have hbs := fun b : Bool => But.setg hbq (S := m.has g) (g := g) (.inl rfl) 6 (.bool b)
                have hrs := fun b : Bool => hrq.keep (w' := wr.setCell ⟨g, 6, none⟩ (.bool b)) (fun q hq _ => setc_other (fun e => hlo q hq e.symm))
                clear c0 c1 c2' c3 c4 c5 c7 hy hjl
                cases kq
                · have HN2 : Hid (false = (kp && !(Wl.take (j + 1)).contains closeW)) := by
                    show _ = _
                    rw [HCT.out]
                    have h1 := hJ.out
                    cases kp
                    · rfl
                    · simp at h1 ⊢
                      exact fun h2 => absurd h1 (by simp [h2])
                  go_wp2_with fail
                  go_roundw
                  case rel => exact ⟨j + 1, false, by omega, by go_num, hset false, hbs false, hrs false, HN2⟩
                  case measure => simp [intOf]; omega
                · by_cases hwc : wd = closeW
                  · have HN2 : Hid (false = (kp && !(Wl.take (j + 1)).contains closeW)) := by
                      show _ = _
                      rw [HCT.out, hwc]
                      simp
                    have hd : (wd == [99, 108, 111, 115, 101]) = true := by simpa [closeW] using hwc
                    clear hwc
                    go_wp2_with fail
                    go_roundw
                    case rel => exact ⟨j + 1, false, by omega, by go_num, hset false, hbs false, hrs false, HN2⟩
                    case measure => simp [intOf]; omega
                  · have HN2 : Hid (true = (kp && !(Wl.take (j + 1)).contains closeW)) := by
                      show _ = _
                      rw [HCT.out, show (wd == closeW) = false by simpa using hwc, Bool.or_false]
                      exact hJ.out
                    have hd : (wd == [99, 108, 111, 115, 101]) = false := by simpa [closeW] using hwc
                    clear hwc
                    go_wp2_with fail
                    go_roundw
                    case rel => exact ⟨j + 1, true, by omega, by go_num, hset true, hbs true, hrs true, HN2⟩
                    case measure => simp [intOf]; omega
              · obtain rfl : j = n2 := by omega
                have htk : Wl.take j = Wl := List.take_of_length_le (by rw [HWN.out]; exact Nat.le_refl _)
                have HN2 : Hid (kq = (x.kp && !closesF (x.fs.take (k + 1)))) := by
                  show _ = _
                  have h1 := hJ.out
                  rw [htk] at h1
                  rw [HCS.out, h1, hH.out]
                  simp [Bool.and_assoc]
                clear hjl htk
                go_wp2_with fail
                go_roundw
                case rel => exact ⟨k + 1, kq, by omega, by go_num, hWq, hbq, HN2⟩
                case measure => simp [intOf]; omega
          · have hd : (N == [99, 111, 110, 110, 101, 99, 116, 105, 111, 110]) = false := by simpa [coW] using hN
            have HN2 : Hid (kp = (x.kp && !closesF (x.fs.take (k + 1)))) := by
              show _ = _
              rw [closes_snoc hx, show (N == coW) = false by simpa using hN]
              simp only [Bool.false_and, Bool.or_false]
              exact hH.out
            clear hN hx hlt
            go_wp2_with fail
            go_roundw
            case rel => exact ⟨k + 1, kp, by omega, by go_num, hW5, hbw5, HN2⟩
            case measure => simp [intOf]; omega
        · obtain rfl : k = m.nF := by omega
          have htk : x.fs.take m.nF = x.fs := List.take_of_length_le (by omega)
          have hkp : kp = (x.kp && !closesF x.fs) := by rw [hH.out, htk]
          have HKP := Lib.hid hkp
          obtain ⟨c0, c1, c2, c3, c4, c5, c6, c7⟩ := hW.cells
          have hf0 := hW.free 0
          dsimp only at c0
          have hW3 : WireB (wr.setCell ⟨g, 0, none⟩ (.int .i64 3)) base g { x with kp := kp, nx := 3 } m := hW.setNx 3
          have hbw3 : But (m.has g) w (wr.setCell ⟨g, 0, none⟩ (.int .i64 3)) := But.setg hbw (.inl rfl) 0 (.int .i64 3)
          have hgW := hW.ge
          have hgL := hW.lt
          have hgs : (wr.setCell ⟨g, 0, none⟩ (.int .i64 3)).heap.size = wr.heap.size := by simp
          have hbsz := hbw.size
          clear hlt hkn hH htk hkp hW hbw c1 c2 c3 c4 c5 c6 c7 hmr
          rcases hE15 with rfl | rfl
          · go_wp2_with fail
            generalize wr.setCell ⟨g, 0, none⟩ (.int .i64 3) = w3 at hW3 hbw3 hgs ⊢
            have hgeB : base ≤ w3.heap.size := by omega
            have hgeW : w.heap.size ≤ w3.heap.size := by omega
            clear c0 hf0
            refine (Chunked_any w3).mono ?_
            rintro e w7 ⟨rfl, hbd, hbl7⟩
            have hW7 := hW3.below hbl7
            have hbw7 : But (m.has g) w w7 := hbw3.trans (But.of_below hbl7 : But (fun _ => False) w3 w7) (fun _ h => h.elim)
            have hbd2 : Body w7 base w3.heap.size none 0 0 (st0) := ⟨hgeB, hbd.obj, hbd.row.mono hgeB, hbd.ne⟩
            have hset := hW7.setBody hbo hbd2 (fun h => Nat.lt_irrefl _ (hW3.in_ _ h).2) (fun k hk => by simp [blk] at hk)
            have hbs := But.setg hbw7 (S := m.has g) (g := g) (.inl rfl) 7 (.pointer (some ⟨w3.heap.size, 0, none⟩))
            rw [hgs] at hset hbs
            obtain ⟨c0, c1, c2, c3, c4, c5, c6, c7⟩ := hW7.cells
            have hf7 := hW7.free 7

            have hrs : Emptied x w base g m (.returned (.int .i64 0)) (w7.setCell ⟨g, 7, none⟩ (.pointer (some ⟨wr.heap.size, 0, none⟩))) := by
              have he : emptyF x.fs = (0, some (st0)) := hOK.out.2.2
              refine ⟨by rw [he], _, ⟨_, hset, hbs, fun k hk => ?_⟩, fun _ => ⟨_, by rw [he], ?_⟩⟩
              · rcases hk with h1 | h1 | h1 | h1 | h1
                · exact .inl (.inl h1)
                · exact .inl (.inr (.inl h1))
                · exact .inl (.inr (.inr (.inl h1)))
                · obtain rfl := Option.some.inj h1
                  exact .inr (by omega)
                · simp [blk] at h1
              · rw [HKP.out]
            have HRS := Lib.hid hrs
            clear hrs hset hbs hbd hbd2 hbl7 hW7 hbw7 c0 c1 c2 c3 c4 c5 c6
            go_wp2_with fail
            go_ret
            exact HRS.out
          · have hS4 := hOK.out.2.1
            go_wp2_with fail
            generalize wr.setCell ⟨g, 0, none⟩ (.int .i64 3) = w3 at hW3 hbw3 hgs ⊢
            have hgeB : base ≤ w3.heap.size := by omega
            have hgeW : w.heap.size ≤ w3.heap.size := by omega
            clear c0 hf0
            refine (Sized_any (S.getD 0) w3 hS4).mono ?_
            rintro e w7 ⟨rfl, hbd, hbl7⟩
            have hW7 := hW3.below hbl7
            have hbw7 : But (m.has g) w w7 := hbw3.trans (But.of_below hbl7 : But (fun _ => False) w3 w7) (fun _ h => h.elim)
            have hbd2 : Body w7 base w3.heap.size none 0 0 (stN (S.getD 0)) := ⟨hgeB, hbd.obj, hbd.row.mono hgeB, hbd.ne⟩
            have hset := hW7.setBody hbo hbd2 (fun h => Nat.lt_irrefl _ (hW3.in_ _ h).2) (fun k hk => by simp [blk] at hk)
            have hbs := But.setg hbw7 (S := m.has g) (g := g) (.inl rfl) 7 (.pointer (some ⟨w3.heap.size, 0, none⟩))
            rw [hgs] at hset hbs
            obtain ⟨c0, c1, c2, c3, c4, c5, c6, c7⟩ := hW7.cells
            have hf7 := hW7.free 7

            have hrs : Emptied x w base g m (.returned (.int .i64 0)) (w7.setCell ⟨g, 7, none⟩ (.pointer (some ⟨wr.heap.size, 0, none⟩))) := by
              have he : emptyF x.fs = (0, some (stN (S.getD 0))) := hOK.out.2.2
              refine ⟨by rw [he], _, ⟨_, hset, hbs, fun k hk => ?_⟩, fun _ => ⟨_, by rw [he], ?_⟩⟩
              · rcases hk with h1 | h1 | h1 | h1 | h1
                · exact .inl (.inl h1)
                · exact .inl (.inr (.inl h1))
                · exact .inl (.inr (.inr (.inl h1)))
                · obtain rfl := Option.some.inj h1
                  exact .inr (by omega)
                · simp [blk] at h1
              · rw [HKP.out]
            have HRS := Lib.hid hrs
            clear hrs hset hbs hbd hbd2 hbl7 hW7 hbw7 c0 c1 c2 c3 c4 c5 c6
            go_wp2_with fail
            go_ret
            exact HRS.out

end Go.Proofs.YtckkmdigmecagaaGreatDoor

/-
  Package wire: stores of a request and of its fields.
-/
namespace Go.Proofs.YtckkmdigmecagaaGreatDoor
open Go.RowKit

theorem suf_iff (b : Bs) : Lib.hasSuffix b [13, 10] = true ↔ b.drop (b.length - 2) = [13, 10] := by
  unfold Lib.hasSuffix
  rw [List.isSuffixOf_iff_suffix, List.suffix_iff_eq_drop]
  exact eq_comm
theorem text_yes {b : Bs} (h : Lib.hasSuffix b [13, 10] = true) : textF b = some (Lib.trimSuffix b [13, 10]) := by
  unfold textF Lib.trimSuffix
  rw [if_pos h, if_pos ((suf_iff b).1 h)]
  rfl
theorem text_no {b : Bs} (h : Lib.hasSuffix b [13, 10] = false) : textF b = none := by
  unfold textF
  refine if_neg fun h1 => ?_
  rw [(suf_iff b).2 h1] at h
  cases h
theorem trim_len (b p : Bs) : (Lib.trimSuffix b p).length ≤ b.length := by
  unfold Lib.trimSuffix
  split
  · simp
  · exact Nat.le_refl _
theorem fdL_snoc : ∀ (a : List Fl.Fd) (N V : Bs), Fl.fdL (a ++ [(N, V)]) = Fl.fdL a ++ [Fl.strV N, Fl.strV V]
  | [], N, V => rfl
  | f :: a, N, V => by simp only [List.cons_append, Fl.fdL, fdL_snoc a]
section
variable {w w4 : World} {base g : Nat} {x : WSt} {m : WMem}
theorem run_storeVar_mid {P : Program} {ty t : TypeId} {o : Nat} {cs : Array Value} {vs : List Value} (hg : w.heap[g]? = some (.cells cs t (0, 0))) (hi : (P.info? ty).map (·.size) = some vs.length) (hs : o + vs.length ≤ cs.size) (h1 : ∀ v ∈ vs, v.oneCell' = true) :
    (storeVar ty ⟨g, o, none⟩ (.agg vs.toArray)).run P w = .ok () (w.setRow g (cs.toList.take o ++ vs ++ cs.toList.drop (o + vs.length)).toArray) := by
  have h := run_storeCells_fr P g o t (0, 0) vs 0 cs w hg (by omega) (fun j _ _ => by omega) h1
  simp only [Nat.add_zero] at h
  simp only [storeVar, Sem.run_bind, sizeOf_run hi, Result.andThen_ok, Value.cells, List.size_toArray, ne_eq, not_true_eq_false, if_false, h]
/-- Another request in the wire's block: no field yet. -/
theorem WireB.setReq (h : WireB w base g x m) (M T : Bs) (K : Bool) (hk : ∀ k, k ≠ g → w4.heap[k]? = w.heap[k]?) {m' : WMem} {x' : WSt} (hm' : m' = { m with F := none, nF := 0, cF := 0 }) (hx' : x' = { x with m := M, t := T, fs := [], kp := K }) (ho : w4.heap[g]? = some (.cells (wireCells x' m') 60 (0, 0))) : WireB w4 base g x' m' := by
  subst hm' hx'
  refine ⟨h.ge, ho, h.ln.keep fun k hk1 _ _ => hk k (fun e => h.nd.L (by rw [hk1, e])), Own.nil_ _ _ _ _, h.bo.keep fun k h1 => hk k (fun e => ?_), ?_⟩
  · rcases h1 with h1 | h1
    · exact h.nd.B (by rw [h1, e])
    · exact h.nd.A (by rw [h1, e])
  · exact ⟨h.nd.L, by simp [blk], h.nd.B, h.nd.A, fun k _ => by simp [blk], h.nd.LB, h.nd.LA, fun k hk => by simp [blk] at hk, fun k hk => by simp [blk] at hk⟩
/-- A field appended, the row stored. -/
theorem WireB.setFs (h : WireB w base g x m) {A : Option Addr} {n c : Nat} {fs : List Fl.Fd} (hg : w.grownBy w4 (blk m.F)) (ho : Own w4 base 44 2 A n c (Fl.fdL fs)) (hA : blk A = blk m.F ∨ blk A = some w.heap.size) :
    WireB (w4.setCell ⟨g, 4, none⟩ (.slice A n c)) base g { x with fs := fs } { m with F := A, nF := n, cF := c } := by
  have hlt : ∀ k, m.has g k → k < w.heap.size := fun k hk => (h.in_ k hk).2
  have hne : blk A ≠ some g := fun e => by
    rcases hA with h1 | h1
    · exact h.nd.F (h1.symm.trans e)
    · have := h.lt
      have e2 := Option.some.inj (h1.symm.trans e)
      omega
  have hN : ∀ k, m.has g k → blk m.F ≠ some k → blk A ≠ some k := fun k hk h2 e => by
    rcases hA with h1 | h1
    · exact h2 (h1.symm.trans e)
    · have := hlt k hk
      have e2 := Option.some.inj (h1.symm.trans e)
      omega
  have hkeep : ∀ k, m.has g k → blk m.F ≠ some k → k ≠ g → (w4.setCell ⟨g, 4, none⟩ (.slice A n c)).heap[k]? = w.heap[k]? := fun k hk h2 h3 => (setc_other h3.symm).trans (hg.block k (hlt k hk) (fun e => h2 e.symm))
  refine ⟨h.ge, ?_, ?_, ?_, ?_, ?_⟩
  · rw [setc_same _ ((hg.block g h.lt (fun e => h.nd.F e.symm)).trans h.obj)]
    rfl
  · exact h.ln.keep fun k hk _ _ => hkeep k (.inr (.inl hk)) (h.nd.LF k hk) (fun e => h.nd.L (by rw [hk, e]))
  · exact ho.keep fun k hk _ _ => setc_other (fun e => hne (by rw [hk, e]))
  · refine h.bo.keep fun k hk => ?_
    rcases hk with h1 | h1
    · exact hkeep k (.inr (.inr (.inr (.inl h1)))) (fun e => h.nd.FB k e h1) (fun e => h.nd.B (by rw [h1, e]))
    · exact hkeep k (.inr (.inr (.inr (.inr h1)))) (fun e => h.nd.FA k e h1) (fun e => h.nd.A (by rw [h1, e]))
  · exact ⟨h.nd.L, hne, h.nd.B, h.nd.A, fun k hk => hN k (.inr (.inl hk)) (h.nd.LF k hk), h.nd.LB, h.nd.LA, fun k hk e => hN k (.inr (.inr (.inr (.inl e)))) (fun e2 => h.nd.FB k e2 e) hk, fun k hk e => hN k (.inr (.inr (.inr (.inr e)))) (fun e2 => h.nd.FA k e2 e) hk⟩
end
section
variable {ops : Array Oper} {rest : List Oper} {o : Oper} {a : Act} {Q : Exit → Act → World → Prop} {w : World}
theorem wpList_store_req (hw : Region.wanted o (yielded ops a.tmps) = true) (u v : Operand) (ho : o.op = .store 42 u v) {base g : Nat} {x : WSt} {m : WMem} (hx : a.eval u = .pointer (some ⟨g, 2, none⟩)) {M T : Bs} {K : Bool} (hy : a.eval v = .agg (reqA M T none 0 0 none 0 0 K)) (h : WireB w base g x m)
    (k : ∀ w', WireB w' base g { x with m := M, t := T, fs := [], kp := K } { m with F := none, nF := 0, cF := 0 } → w.grownBy w' (some g) → w'.heap.size = w.heap.size → wpList Tryz.prog ops Q rest (a.put o.dst undef) w') : wpList Tryz.prog ops Q (o :: rest) a w := by
  refine wpList_taken hw fun K1 hK => ?_
  have hrun := run_storeVar_mid (P := Tryz.prog) (ty := 42) (o := 2) (vs := (reqA M T none 0 0 none 0 0 K).toList) h.obj size_req0 (by show 2 + 5 ≤ 8; decide) req_one
  have hrun' : (storeVar 42 ⟨g, 2, none⟩ (.agg (reqA M T none 0 0 none 0 0 K))).run Tryz.prog w = _ := hrun
  have hgr : w.grownBy (w.setRow g ((wireCells x m).toList.take 2 ++ (reqA M T none 0 0 none 0 0 K).toList ++ (wireCells x m).toList.drop (2 + (reqA M T none 0 0 none 0 0 K).toList.length)).toArray) (some g) := ⟨rfl, rfl, rfl, by simp, fun q _ hq => setRow_other w g q _ (fun e => hq (by rw [e]))⟩
  unfold Oper.wp execOp
  simp only [ho, hx, hy, Instr.storeAt, Instr.sureAddr, Sem.run_bind, Sem.run_pure, Result.andThen_ok, hrun']
  exact hK _ _ (k _ (h.setReq M T K (fun k hk => setRow_other w g k _ hk) rfl rfl (setRow_heap w g _ _ _ _ h.obj)) hgr (by simp))
theorem fill_fd1 (x y : Bs) : Instr.fill (fun i => some (i * 2, 2)) ((Array.range (1 * 2)).map ((Value.agg (Fl.fdA [] [])).cells[· % (Value.agg (Fl.fdA [] [])).cells.size]!)) [(0, .agg (Fl.fdA x y))] = some (Fl.fdA x y) := by kernel_rfl
theorem wpList_litF1 {x : Operand} {u v : Bs} (hgd : o.guard = none) (ho : o.op = .buildSlice 40 1 #[(0, x)]) (hx : a.eval x = .agg (Fl.fdA u v))
    (k : ∀ w', w' = w.alloc (.cells (Fl.fdA u v) 44) → wpList Tryz.prog ops Q rest (a.put o.dst (.slice (some ⟨w.heap.size, 0, none⟩) 1 1)) w') : wpList Tryz.prog ops Q (o :: rest) a w := by
  obtain ⟨ie, hie, hz, hs, _⟩ := Fl.ef.info
  refine wpList_buildSlice hgd 40 44 1 _ ho (Fl.fdA u v) ie (.agg (Fl.fdA [] [])) Tryz.underlying40 hie hz (by rw [hs]; decide) (by rw [hs]; decide) ?_ (k _ rfl)
  rw [hs]
  have e : ((#[(0, x)] : Array (Nat × Operand)).map fun (i, x) => (i, a.eval x)).toList = [(0, Value.agg (Fl.fdA u v))] := by
    simp [hx]
  rw [e]
  exact fill_fd1 u v
theorem litF1_rd {w w' : World} {u v : Bs} {t : TypeId} (h : w' = w.alloc (.cells (Fl.fdA u v) t)) : Rd w' 2 (some ⟨w.heap.size, 0, none⟩) 1 1 [Fl.strV u, Fl.strV v] := by
  rw [h]
  exact (Own.new (e := t) (size := 2) (base := w.heap.size) w (Fl.fdA u v) (0, 0) 1 1 _ (Nat.le_refl _) (Nat.le_refl _) (by unfold maxLen; omega) rfl (Nat.le_refl 2) (fun j y hy => by
    match j, hy with
    | 0, hy => exact hy
    | 1, hy => exact hy) (fun j _ h => by omega)).rd
end

end Go.Proofs.YtckkmdigmecagaaGreatDoor

/-
  Package wire: a line is looked at.
-/
namespace Go.Proofs.YtckkmdigmecagaaGreatDoor
open Go.RowKit

def Judged (x : WSt) (b : Bs) (w : World) (base g : Nat) (m : WMem) (e : Ending) (w' : World) : Prop :=
  e = .returned (.int .i64 (judgeF x b).1) ∧ ∃ y, WStep w base g m w' y ∧ ((judgeF x b).1 = 0 → y = (judgeF x b).2)
theorem judged_bad {x : WSt} {b : Bs} {w w' : World} {base g : Nat} {m : WMem} {E : Int} {y z : WSt} (hE : judgeF x b = (E, z)) (h0 : E ≠ 0) (hs : WStep w base g m w' y) : Judged x b w base g m (.returned (.int .i64 E)) w' := by
  refine ⟨by rw [hE], y, hs, fun h1 => ?_⟩
  rw [hE] at h1
  exact absurd h1 h0
theorem judged_ok {x : WSt} {b : Bs} {w w' : World} {base g : Nat} {m : WMem} {E : Int} {y : WSt} (hE : judgeF x b = (E, y)) (hs : WStep w base g m w' y) : Judged x b w base g m (.returned (.int .i64 E)) w' :=
  ⟨by rw [hE], y, hs, fun _ => by rw [hE]⟩

theorem litF1_below {w w' : World} {ob : Obj} (h : w' = w.alloc ob) : Below w.heap.size w w' := by
  rw [h]
  exact (Below.refl _ _).alloc (Nat.le_refl _) _
theorem two_one (N V : Bs) : ∀ u ∈ [Fl.strV N, Fl.strV V], u.oneCell' = true := by
  intro u hu
  rcases List.mem_cons.1 hu with rfl | hu
  · rfl
  · obtain rfl := List.mem_singleton.1 hu
    rfl
theorem step_fs {w1 w5 w6 : World} {base g : Nat} {x : WSt} {m : WMem} {A : Option Addr} {n c : Nat} {fs : List Fl.Fd} (h5 : WireB w5 base g x m) (hb : But (m.has g) w1 w5) (hg6 : w5.grownBy w6 (blk m.F)) (ho6 : Own w6 base 44 2 A n c (Fl.fdL fs)) (hq6 : blk A = blk m.F ∨ blk A = some w5.heap.size) :
    WStep w1 base g m (w6.setCell ⟨g, 4, none⟩ (.slice A n c)) { x with fs := fs } := by
  refine ⟨_, h5.setFs hg6 ho6 hq6, ((hb.trans (But.of_grown hg6 (S := m.has g) (fun q e => .inr (.inr (.inl e)))) (fun _ h => .inl h))).setg (.inl rfl) 4 _, fun k hk => ?_⟩
  rcases hk with h1 | h1 | h1 | h1 | h1
  · exact .inl (.inl h1)
  · exact .inl (.inr (.inl h1))
  · rcases hq6 with h2 | h2
    · exact .inl (.inr (.inr (.inl (h2.symm.trans h1))))
    · have e := Option.some.inj (h2.symm.trans h1)
      have := hb.size
      exact .inr (by omega)
  · exact .inl (.inr (.inr (.inr (.inl h1))))
  · exact .inl (.inr (.inr (.inr (.inr h1))))
theorem load_fd {w : World} {q : Nat} {N V : Bs} {t : TypeId} {fr : Nat × Nat} (h : w.heap[q]? = some (.cells (Fl.fdA N V) t fr)) : (loadVar 44 ⟨q, 0, none⟩).run Tryz.prog w = .ok (.agg (Fl.fdA N V)) w := by
  have hl := run_loadCells_list (P := Tryz.prog) w ⟨q, 0, none⟩ [Fl.strV N, Fl.strV V] (fun j v hv => by
    match j, hv with
    | 0, hv => obtain rfl := Option.some.inj hv; simp [World.cell?, Addr.add, h, Fl.fdA, Fl.strV]
    | 1, hv => obtain rfl := Option.some.inj hv; simp [World.cell?, Addr.add, h, Fl.fdA, Fl.strV])
  have e : [Fl.strV N, Fl.strV V].length = 2 := rfl
  rw [e] at hl
  simp [loadVar, isAgg, run_underlying Tryz.underlying44, sizeOf_run Fl.size_fd0, hl, Fl.fdA, Fl.strV]

set_option maxRecDepth 20000 in
set_option maxHeartbeats 8000000 in
theorem judge_any {w : World} {base g : Nat} {x : WSt} {m : WMem} (h : WireB w base g x m) (hk : WFz x) (hbo : x.bo = none) (hm : Mx w) (h0 : mxb < base) {A : Option Addr} {n c : Nat} {b : Bs} (hb : Rd w 1 A n c (b.map b8)) (hn : n ≤ 1024) :
    Calls Tryz.prog 35 #[.pointer (some ⟨g, 0, none⟩), .slice A n c] w (Judged x b w base g m) := by
  have hln : b.length = n := hb.lenb
  have hfl : x.fs.length = m.nF := Fl.Fds.len (show Fl.Fds w m.F m.nF m.cF x.fs from h.fs.rd)
  have hjd : judgeF x b = (match textF b with
    | none => (4, x)
    | some s =>
      if x.nx = 1 then (match firstF s with
        | none => (4, x)
        | some (m, t) => (0, { x with m := m, t := t, fs := [], kp := true, nx := 2 }))
      else if s = [] then (match emptyF x.fs with
        | (0, some st) => (0, { x with kp := x.kp && !closesF x.fs, bo := some st, nx := 3 })
        | (e, _) => (e, x))
      else if x.fs.length = 32 then (2, x)
      else ((Fl.lineR s).2.2, { x with fs := x.fs ++ [((Fl.lineR s).1, (Fl.lineR s).2.1)] })) := rfl
  have hstr := run_str_rd (P := Tryz.prog) (dst := 9) eb Tryz.underlying5 Tryz.underlying9 hb
  have hcs : ∀ W, Calls Tryz.prog 49 #[.string ⟨b.toArray⟩, .string ⟨#[13, 10]⟩] W fun e w' => e = .returned (.tuple #[.string ⟨(Lib.trimSuffix b [13, 10]).toArray⟩, .bool (Lib.hasSuffix b [13, 10])]) ∧ w' = W := fun W => Tryz.strings_CutSuffix ⟨b.toArray⟩ ⟨#[13, 10]⟩ W (by rw [size_mk]; omega)
  have HCS := Lib.hid hcs
  have htl := trim_len b [13, 10]
  have hty := text_yes (b := b)
  have htn := text_no (b := b)
  obtain ⟨s, hs⟩ : ∃ s, Lib.trimSuffix b [13, 10] = s := ⟨_, rfl⟩
  obtain ⟨ok, hok⟩ : ∃ o, Lib.hasSuffix b [13, 10] = o := ⟨_, rfl⟩
  rw [hs, hok] at HCS
  rw [hs] at htl
  rw [hok] at htn
  rw [hs, hok] at hty
  have hsl : s.length ≤ 1024 := by omega
  have HB := Lib.hid h
  have HK := Lib.hid hk
  obtain ⟨c0, c1, c2, c3, c4, c5, c6, c7⟩ := h.cells
  clear hcs hs hok htl c1 c2 c3 c5 c6 c7
  cases ok
  · have HJ := Lib.hid (hjd.trans (by rw [htn rfl]))
    clear hjd htn hty
    go_enter Tryz.func35, Tryz.ntmps35
    go_wp2_with fail
    refine (HCS.out w).mono ?_
    rintro e w1 ⟨rfl, rfl⟩
    go_wp2_with fail
    go_ret
    exact judged_bad HJ.out (by decide) (WStep.of_below HB.out (Below.refl _ _))
  · rw [hty rfl] at hjd
    dsimp only at hjd
    clear htn hty
    by_cases hx1 : x.nx = 1
    · rw [if_pos hx1] at hjd
      have HJ := Lib.hid hjd
      have HF := Lib.hid (first_any s (by omega) w hm)
      unfold Firsted at HF
      rw [hx1] at c0
      clear hjd hx1
      go_enter Tryz.func35, Tryz.ntmps35
      go_wp2_with fail
      refine (HCS.out w).mono ?_
      rintro e w1 ⟨rfl, rfl⟩
      go_wp2_with fail
      refine HF.out.mono ?_
      rintro e w2 ⟨hb2, hr⟩
      have h2 := HB.out.below hb2
      rcases hr with ⟨hf, rfl⟩ | ⟨M, T, hf, rfl⟩
      · have HE := Lib.hid (HJ.out.trans (by rw [hf]))
        go_wp2_with (refine wpList_store_req rfl _ _ rfl rfl rfl h2 ?_; intro w3 h3 hg3 hz3)
        have hst : WStep w1 base g m w3 _ := ⟨_, h3, (But.of_below hb2 : But (m.has g) w1 w2).trans (But.of_grown hg3 (S := m.has g) (fun q e => .inl (Option.some.inj e).symm)) (fun _ h => .inl h), fun k hk => by
          rcases hk with h1 | h1 | h1 | h1 | h1
          · exact .inl (.inl h1)
          · exact .inl (.inr (.inl h1))
          · simp [blk] at h1
          · exact .inl (.inr (.inr (.inr (.inl h1))))
          · exact .inl (.inr (.inr (.inr (.inr h1))))⟩
        have HST := Lib.hid hst
        clear hst
        go_wp2_with fail
        go_ret
        exact judged_bad HE.out (by decide) HST.out
      · have HE := Lib.hid (HJ.out.trans (by rw [hf]))
        go_wp2_with (refine wpList_store_req rfl _ _ rfl rfl rfl h2 ?_; intro w3 h3 hg3 hz3; have hf0 := h3.free 0; obtain ⟨d0, -⟩ := h3.cells; dsimp only at d0)
        have hst : WStep w1 base g m (w3.setCell ⟨g, 0, none⟩ (.int .i64 2)) _ := ⟨_, h3.setNx 2, ((But.of_below hb2 : But (m.has g) w1 w2).trans (But.of_grown hg3 (S := m.has g) (fun q e => .inl (Option.some.inj e).symm)) (fun _ h => .inl h)).setg (.inl rfl) 0 _, fun k hk => by
          rcases hk with h1 | h1 | h1 | h1 | h1
          · exact .inl (.inl h1)
          · exact .inl (.inr (.inl h1))
          · simp [blk] at h1
          · exact .inl (.inr (.inr (.inr (.inl h1))))
          · exact .inl (.inr (.inr (.inr (.inr h1))))⟩
        have HST := Lib.hid hst
        clear hst
        go_ret
        exact judged_ok HE.out HST.out
    · rw [if_neg hx1] at hjd
      have hd : ((x.nx : Int) == 1) = false := by
        rw [beq_eq_false_iff_ne]
        omega
      by_cases hse : s = []
      · subst hse
        rw [if_pos rfl] at hjd
        have HJ := Lib.hid hjd
        have HEM := Lib.hid (empty_any h hk hbo hm h0)
        unfold Emptied at HEM
        obtain ⟨⟨E, o⟩, hE⟩ : ∃ r, emptyF x.fs = r := ⟨_, rfl⟩
        rw [hE] at HEM HJ
        dsimp only at HEM HJ
        clear hjd hx1
        go_enter Tryz.func35, Tryz.ntmps35
        go_wp2_with fail
        refine (HCS.out w).mono ?_
        rintro e w1 ⟨rfl, rfl⟩
        go_wp2_with fail
        refine HEM.out.mono ?_
        rintro e w2 ⟨rfl, y, hst, hy⟩
        have HST := Lib.hid hst
        clear hst
        go_wp2_with fail
        go_ret
        by_cases hE0 : E = 0
        · subst hE0
          obtain ⟨st, rfl, rfl⟩ := hy rfl
          exact judged_ok HJ.out HST.out
        · refine judged_bad (z := x) (HJ.out.trans ?_) hE0 HST.out
          split
          · rename_i heq
            exact absurd (Prod.mk.inj heq).1 hE0
          · rename_i heq
            rw [(Prod.mk.inj heq).1]
      · rw [if_neg hse] at hjd
        have hd2 : (s == []) = false := by simpa using hse
        by_cases h32 : x.fs.length = 32
        · rw [if_pos h32] at hjd
          have HJ := Lib.hid hjd
          have hn32 : m.nF = 32 := by omega
          rw [hn32] at c4
          clear hjd hx1 hse h32
          go_enter Tryz.func35, Tryz.ntmps35
          go_wp2_with fail
          refine (HCS.out w).mono ?_
          rintro e w1 ⟨rfl, rfl⟩
          go_wp2_with fail
          go_ret
          exact judged_bad HJ.out (by decide) (WStep.of_below HB.out (Below.refl _ _))
        · rw [if_neg h32] at hjd
          have HJ := Lib.hid hjd
          have hn32 : m.nF ≤ 31 := by have := hk.fs; omega
          have hd3 : ((m.nF : Int) == 32) = false := by
            rw [beq_eq_false_iff_ne]
            omega
          have HL := Lib.hid (Fl.Line_any s (by omega) w hm)
          unfold Fl.Lined at HL
          obtain ⟨⟨N, V, E⟩, hE⟩ : ∃ r, Fl.lineR s = r := ⟨_, rfl⟩
          rw [hE] at HL HJ
          dsimp only at HL HJ
          clear hjd hx1 hse h32 hE
          go_enter Tryz.func35, Tryz.ntmps35
          go_wp2_with fail
          refine (HCS.out w).mono ?_
          rintro e w1 ⟨rfl, rfl⟩
          go_wp2_with fail
          refine HL.out.mono ?_
          rintro e w2 ⟨rfl, hb2⟩
          have h2 := HB.out.below hb2
          have hglt := h2.lt
          have hgb := hb2.size
          go_upto_region 15 with (first
            | (refine wpList_alloc_zero rfl _ rfl (Fl.fdA [] []) Fl.zero_fd ?_; intro w3 hg3 hb3 hz3; clear hz3)
            | (refine wpList_store_all rfl _ _ _ rfl w2.heap.size rfl _ _ _ rfl hg3 (Fl.size_fd _ _) rfl (Fl.fd_one _ _) ?_; intro w4 hg4 hgr4 hz4))
          have b24 : Below w2.heap.size w2 w4 := hb3.grown hgr4 hb3.size (fun q hq => by obtain rfl := Option.some.inj hq; exact Nat.le_refl _)
          have hW4 : WireB w4.drew base g x m := (h2.below b24).keep (fun _ _ => rfl)
          have hlt4 : w2.heap.size < w4.heap.size := (Array.getElem?_eq_some_iff.1 hg4).1
          have hld : ∀ b : Keep1 w4 w2.heap.size, (loadVar 44 ⟨w2.heap.size, 0, none⟩).run Tryz.prog b.at' = .ok (.agg (Fl.fdA N V)) b.at' := fun b => load_fd (b.same.trans hg4)
          have hFlt : ∀ k, blk m.F = some k → k < w2.heap.size := fun k hk => (h2.fs.lt k hk).2
          have hbw4 : But (m.has g) w1 w4.drew := ((But.of_below hb2 : But (m.has g) w1 w2).trans (But.of_below b24 : But (fun _ => False) w2 w4) (fun _ h => h.elim)).drew
          have c4' := hW4.cells.2.2.2.2.1
          clear hg3 hb3 hgr4 hz4 b24 c0 c4
          refine wp_region_plan (MPlan.reads [0, 1, 2, 3, 4, 6] (.two 5 7 (.one 7 (.one 8 (MPlan.reads [9, 10, 11] (.one 12 .fin)))) (.one 5 (.one 8 (MPlan.reads [9, 10, 11] (.one 12 .fin)))))) (fun x => ∃ b : Keep1 w4 w2.heap.size, x = b.at') (by kernel_rfl) (by kernel_rfl) (by kernel_rfl) (fun _ _ _ _ _ h => h) ⟨⟨w4.drew, rfl⟩, rfl⟩ ?_
          iterate 2 (refine plan_read (o := ⟨_, _, _, _, _, _⟩) (by rfl) (by rfl) ?_; go_big_quiet_step (fail); refine wpQuiet_nil ?_)
          refine plan_run (o := ⟨_, _, _, _, _, _⟩) (by rfl) (by rfl) (.pointer (some ⟨g, 0, none⟩)) (fun w' _ => by rfl) ?_
          simp only [Act.put, List.setIfInBounds_toArray, List.set_cons_succ, List.set_cons_zero]
          iterate 2 (refine plan_read (o := ⟨_, _, _, _, _, _⟩) (by rfl) (by rfl) ?_; go_big_quiet_step (fail); refine wpQuiet_nil ?_)
          refine plan_load (o := ⟨_, _, _, _, _, _⟩) (by rfl) rfl (by rfl) _ rfl _ (fun w' hS => by obtain ⟨b, rfl⟩ := hS; exact hld b) ?_
          simp only [Act.put, List.setIfInBounds_toArray, List.set_cons_succ, List.set_cons_zero]
          refine plan_two (oi := ⟨_, _, _, _, _, _⟩) (oj := ⟨_, _, _, _, _, _⟩) (by rfl) (by rfl) (fun K hK => ?_) (fun K hK => ?_)
          · go_wp2_with fail
            refine hK _ _ ⟨⟨w4.drew, rfl⟩, rfl⟩ ?_
            clear hK c4'
            refine plan_one (o := ⟨_, _, _, _, _, _⟩) (by rfl) (fun K hK => ?_)
            go_wp2_with (refine wpList_litF1 (u := N) (v := V) rfl rfl rfl ?_; intro w5 hw5; have hl5 := litF1_rd hw5; have hb5 := litF1_below hw5; clear hw5)
            have hW5 := hW4.below hb5
            have hbw5 : But (m.has g) w1 w5 := hbw4.trans (But.of_below hb5 : But (fun _ => False) w4.drew w5) (fun _ h => h.elim)
            have hgeB : base ≤ w5.heap.size := Nat.le_of_lt (Nat.lt_of_le_of_lt hW5.ge hW5.lt)
            refine hK _ _ ⟨⟨w5, hb5.block _ hlt4⟩, rfl⟩ ?_
            clear hK
            refine plan_one (o := ⟨_, _, _, _, _, _⟩) (by rfl) (fun K hK => ?_)
            go_wp2_with (at_builtin; refine wpList_app rfl _ _ rfl Fl.ef hW5.fs rfl hl5 rfl (two_one N V) (by omega) (by unfold maxLen; omega) hgeB ?_; intro A6 c6 w6 ho6 hg6 hq6; rw [← fdL_snoc] at ho6)
            have HST := Lib.hid (step_fs hW5 hbw5 hg6 ho6 hq6)
            have hk6 : w6.heap[w2.heap.size]? = w4.heap[w2.heap.size]? := (hg6.block _ (Nat.lt_of_lt_of_le hlt4 hb5.size) (fun e => by have := hFlt _ e.symm; omega)).trans (hb5.block _ hlt4)
            have hob6 := (hg6.block g hW5.lt (fun e => h2.nd.F e.symm)).trans hW5.obj
            have c46 : w6.cell? ⟨g, 4, none⟩ = some (.slice m.F m.nF m.cF) := by simp [World.cell?, hob6, wireCells]
            have hf46 : w6.frozen? ⟨g, 4, none⟩ = false := by simp [World.frozen?, hob6]
            refine hK _ _ ⟨⟨w6, hk6⟩, rfl⟩ ?_
            clear hK
            refine plan_run (o := ⟨_, _, _, _, _, _⟩) (by rfl) (by rfl) (.pointer (some ⟨g, 0, none⟩)) (fun w' _ => by rfl) ?_
            simp only [Act.put, List.setIfInBounds_toArray, List.set_cons_succ, List.set_cons_zero]
            iterate 2 (refine plan_read (o := ⟨_, _, _, _, _, _⟩) (by rfl) (by rfl) ?_; go_big_quiet_step (fail); refine wpQuiet_nil ?_)
            refine plan_one (o := ⟨_, _, _, _, _, _⟩) (by rfl) (fun K hK => ?_)
            clear hob6 hg6 ho6 hq6 hW5 hbw5 hld hl5
            go_wp2_with fail
            refine hK _ _ ⟨⟨_, (setc_other (by omega)).trans hk6⟩, rfl⟩ ?_
            clear hK
            refine plan_fin ?_
            go_wp2_with fail
            go_ret
            exact judged_ok HJ.out HST.out
          · go_wp2_with (refine wpList_litF1 (u := N) (v := V) rfl rfl rfl ?_; intro w5 hw5; have hl5 := litF1_rd hw5; have hb5 := litF1_below hw5; clear hw5)
            have hW5 := hW4.below hb5
            have hbw5 : But (m.has g) w1 w5 := hbw4.trans (But.of_below hb5 : But (fun _ => False) w4.drew w5) (fun _ h => h.elim)
            have hgeB : base ≤ w5.heap.size := Nat.le_of_lt (Nat.lt_of_le_of_lt hW5.ge hW5.lt)
            refine hK _ _ ⟨⟨w5, hb5.block _ hlt4⟩, rfl⟩ ?_
            clear hK
            have c45 := hW5.cells.2.2.2.2.1
            refine plan_one (o := ⟨_, _, _, _, _, _⟩) (by rfl) (fun K hK => ?_)
            go_wp2_with fail
            refine hK _ _ ⟨⟨w5, hb5.block _ hlt4⟩, rfl⟩ ?_
            clear hK c45
            refine plan_one (o := ⟨_, _, _, _, _, _⟩) (by rfl) (fun K hK => ?_)
            go_wp2_with (at_builtin; refine wpList_app rfl _ _ rfl Fl.ef hW5.fs rfl hl5 rfl (two_one N V) (by omega) (by unfold maxLen; omega) hgeB ?_; intro A6 c6 w6 ho6 hg6 hq6; rw [← fdL_snoc] at ho6)
            have HST := Lib.hid (step_fs hW5 hbw5 hg6 ho6 hq6)
            have hk6 : w6.heap[w2.heap.size]? = w4.heap[w2.heap.size]? := (hg6.block _ (Nat.lt_of_lt_of_le hlt4 hb5.size) (fun e => by have := hFlt _ e.symm; omega)).trans (hb5.block _ hlt4)
            have hob6 := (hg6.block g hW5.lt (fun e => h2.nd.F e.symm)).trans hW5.obj
            have c46 : w6.cell? ⟨g, 4, none⟩ = some (.slice m.F m.nF m.cF) := by simp [World.cell?, hob6, wireCells]
            have hf46 : w6.frozen? ⟨g, 4, none⟩ = false := by simp [World.frozen?, hob6]
            refine hK _ _ ⟨⟨w6, hk6⟩, rfl⟩ ?_
            clear hK
            refine plan_run (o := ⟨_, _, _, _, _, _⟩) (by rfl) (by rfl) (.pointer (some ⟨g, 0, none⟩)) (fun w' _ => by rfl) ?_
            simp only [Act.put, List.setIfInBounds_toArray, List.set_cons_succ, List.set_cons_zero]
            iterate 2 (refine plan_read (o := ⟨_, _, _, _, _, _⟩) (by rfl) (by rfl) ?_; go_big_quiet_step (fail); refine wpQuiet_nil ?_)
            refine plan_one (o := ⟨_, _, _, _, _, _⟩) (by rfl) (fun K hK => ?_)
            clear hob6 hg6 ho6 hq6 hW5 hbw5 hld hl5
            go_wp2_with fail
            refine hK _ _ ⟨⟨_, (setc_other (by omega)).trans hk6⟩, rfl⟩ ?_
            clear hK
            refine plan_fin ?_
            go_wp2_with fail
            go_ret
            exact judged_ok HJ.out HST.out

end Go.Proofs.YtckkmdigmecagaaGreatDoor

/-
  Plain: a body is fed; what a wire may be stays so.
-/
namespace Go.Proofs.YtckkmdigmecagaaGreatDoor
open Go.RowKit

/-- What a wire may be behind one byte, ahead of the look whether its request is whole. -/
structure WOk' (w : WSt) : Prop where
  nx1 : 1 ≤ w.nx
  nx5 : w.nx ≤ 3
  ln : w.ln.length ≤ 1023
  fs : w.fs.length ≤ 32
  fz : ∀ f ∈ w.fs, f.1.length ≤ 1024 ∧ f.2.length ≤ 1024 ∧ ∀ x ∈ f.2, x.toNat < 128
  b3 : w.nx = 3 ↔ w.bo.isSome = true
  bo : ∀ st, w.bo = some st → Ok st ∧ st.bd = 0
  l3 : w.nx = 3 → w.ln = []
theorem errF_ne {b : Int} (h : b ≠ 0) : errF b ≠ 0 := by
  unfold errF
  split
  · decide
  · exact h
theorem whole_open {x : WSt} {st : St} (hb : x.bo = some st) (h9 : st.nx ≠ 9) : wholeF x = (none, x) := by
  unfold wholeF
  rw [hb]
  dsimp only
  rw [if_neg (fun h => h9 h.2)]
theorem whole_none {x : WSt} (hb : x.bo = none) : wholeF x = (none, x) := by
  unfold wholeF
  rw [hb]
theorem whole_done {x : WSt} {st : St} (hb : x.bo = some st) (h3 : x.nx = 3) (h9 : st.nx = 9) : wholeF x = (some ⟨x.m, x.t, x.fs, st.got, x.kp⟩, ⟨if x.kp then 1 else 4, x.ln, [], [], [], false, none⟩) := by
  unfold wholeF
  rw [hb]
  dsimp only
  rw [if_pos ⟨h3, h9⟩]
theorem one_body {x : WSt} {st : St} (hb : x.bo = some st) (h3 : x.nx = 3) (c : UInt8) : oneF x c = bodyF x st c := by
  unfold oneF
  rw [hb]
  dsimp only
  rw [if_pos h3]
theorem one_line {x : WSt} (hb : x.bo = none) (c : UInt8) : oneF x c = lineF x c := by
  unfold oneF
  rw [hb]
theorem feed_cons {x : WSt} {c : UInt8} {l : Bs} (h4 : x.nx ≠ 4) : feedW x (c :: l) = if (oneF x c).1 ≠ 0 then ([], badW, (oneF x c).1) else ((wholeF (oneF x c).2).1.toList ++ (feedW (wholeF (oneF x c).2).2 l).1, (feedW (wholeF (oneF x c).2).2 l).2) := by
  rw [feedW, if_neg h4]
/-- Bytes of a body, all at once. -/
theorem feed_body : ∀ (l : Bs) (x : WSt) (st : St), x.nx = 3 → x.bo = some st → st.bd = 0 → st.nx ≠ 9 →
    feedW x l = if (feedP st l).2.bd ≠ 0 then ([], badW, errF (feedP st l).2.bd) else
      ((wholeF { x with bo := some (feedP st l).2 }).1.toList ++ (feedW (wholeF { x with bo := some (feedP st l).2 }).2 (l.drop (feedP st l).1)).1, (feedW (wholeF { x with bo := some (feedP st l).2 }).2 (l.drop (feedP st l).1)).2)
  | [], x, st, h3, hb, h0, h9 => by
    have hx : { x with bo := some st } = x := by
      cases x
      dsimp only at hb
      rw [hb]
    have hf : feedP st [] = (0, st) := rfl
    rw [hf]
    dsimp only
    rw [if_neg (by simp [h0]), hx, whole_open hb h9]
    simp [feedW]
  | c :: l, x, st, h3, hb, h0, h9 => by
    rw [feed_cons (by omega), one_body hb h3]
    obtain ⟨⟨s', b⟩, ht⟩ : ∃ r, takeP st c = r := ⟨_, rfl⟩
    have hf : feedP st (c :: l) = ((feedP { s' with bd := b } l).1 + 1, (feedP { s' with bd := b } l).2) := by
      rw [feedP, if_neg (by omega), ht]
    have ho : bodyF x st c = (errF b, { x with bo := some { s' with bd := b } }) := by
      unfold bodyF
      rw [ht]
    rw [hf, ho]
    dsimp only
    by_cases hbz : b = 0
    · subst hbz
      rw [if_neg (show ¬ errF 0 ≠ 0 by decide)]
      by_cases h9' : s'.nx = 9
      · rw [feedP_stop (s := { s' with bd := 0 }) (.inl h9')]
        dsimp only
        rw [if_neg (by simp)]
        simp
      · have ih := feed_body l { x with bo := some { s' with bd := 0 } } { s' with bd := 0 } h3 rfl rfl h9'
        rw [whole_open (st := { s' with bd := 0 }) rfl h9']
        dsimp only
        rw [ih]
        simp
    · rw [if_pos (errF_ne hbz), feedP_stop (s := { s' with bd := b }) (.inr hbz)]
      dsimp only
      rw [if_pos hbz]
theorem newOk : WOk newW := ⟨by decide, by decide, by decide, by decide, by intro f hf; simp [newW] at hf, by decide, by intro st h; simp [newW] at h, by intro h; simp [newW] at h⟩
theorem trimL_sub (l : Bs) : (Fl.trimL l).length ≤ l.length ∧ ∀ x ∈ Fl.trimL l, x ∈ l := by
  unfold Fl.trimL Lib.trimS Lib.trimLeftS Lib.trimRightS
  generalize hp : (fun x => Fl.blk2.contains x) = p
  have h1 := List.dropWhile_sublist p (l := l.reverse)
  have h2 := List.dropWhile_sublist p (l := (l.reverse.dropWhile p).reverse)
  have h3 : (l.reverse.dropWhile p).reverse.Sublist l := by
    have := h1.reverse
    rwa [List.reverse_reverse] at this
  exact ⟨(h2.trans h3).length_le, fun x hx => (h2.trans h3).subset hx⟩
theorem cut1_sub (c : UInt8) : ∀ (s : Bs), ∀ x ∈ (cut1 c s).2.1, x ∈ s
  | [], x, h => by simp [cut1] at h
  | y :: l, x, h => by
    rw [cut1] at h
    split at h
    · exact List.mem_cons_of_mem _ h
    · exact List.mem_cons_of_mem _ (cut1_sub c l x h)
theorem line_fz {s : Bs} (h : (Fl.lineR s).2.2 = 0) : (Fl.lineR s).1.length ≤ s.length ∧ (Fl.lineR s).2.1.length ≤ s.length ∧ ∀ x ∈ (Fl.lineR s).2.1, x.toNat < 128 := by
  unfold Fl.lineR at h ⊢
  split at h
  · rename_i hc
    rw [if_pos hc]
    dsimp only
    have h1 := cut1_le 58 s
    have h2 := trimL_sub (cut1 58 s).2.1
    refine ⟨?_, by omega, fun x hx => ?_⟩
    · unfold Fl.smallL
      rw [List.length_map]
      exact h1.1
    · have h3 := List.all_eq_true.1 hc.2.2.2 x (h2.2 x hx)
      unfold Fl.okV at h3
      simp at h3
      omega
  · cases h
theorem text_le {b s : Bs} (h : textF b = some s) : s.length ≤ b.length := by
  unfold textF at h
  split at h
  · rw [← Option.some.inj h, List.length_take]
    omega
  · cases h
theorem okEmpty {fs : List Fl.Fd} {st : St} (h : emptyF fs = (0, some st)) : Ok st ∧ st.bd = 0 := by
  unfold emptyF at h
  split at h
  · cases h
  · split at h
    · cases h
    · split at h
      · cases h
      · rename_i h4
        have h5 := Option.some.inj (Prod.mk.inj h).2
        rw [← h5]
        split
        · exact ⟨ok0, rfl⟩
        · refine ⟨okN _ (by omega), ?_⟩
          unfold stN
          split <;> rfl
theorem judge_ok {x : WSt} (h : WOk x) (hb : x.bo = none) (h2 : x.nx ≤ 2) {b : Bs} (hl : b.length ≤ 1024) (he : (judgeF x b).1 = 0) : WOk' { (judgeF x b).2 with ln := [] } := by
  have hL : ([] : Bs).length ≤ 1023 := by simp
  have hb3 : ∀ n, n ≤ 2 → (n = 3 ↔ x.bo.isSome = true) := fun n hn => by rw [hb]; simp; omega
  have hbo : ∀ st, x.bo = some st → Ok st ∧ st.bd = 0 := fun st hs => by rw [hb] at hs; cases hs
  unfold judgeF at he ⊢
  cases ht : textF b with
  | none =>
    rw [ht] at he
    cases he
  | some s =>
    have hsl := text_le ht
    rw [ht] at he
    dsimp only at he ⊢
    by_cases h1 : x.nx = 1
    · rw [if_pos h1] at he ⊢
      cases hf : firstF s with
      | none =>
        rw [hf] at he
        cases he
      | some p =>
        exact ⟨by simp, by simp, hL, by simp, by simp, hb3 2 (by omega), hbo, fun _ => rfl⟩
    · rw [if_neg h1] at he ⊢
      by_cases hs : s = []
      · rw [if_pos hs] at he ⊢
        obtain ⟨⟨E, o⟩, hE⟩ : ∃ r, emptyF x.fs = r := ⟨_, rfl⟩
        rw [hE] at he ⊢
        have hE0 : E = 0 := by
          split at he
          · rename_i heq
            exact (Prod.mk.inj heq).1
          · rename_i heq
            have := (Prod.mk.inj heq).1
            rw [this]
            exact he
        subst hE0
        cases o with
        | none =>
          exfalso
          unfold emptyF at hE
          split at hE
          · cases hE
          · split at hE
            · cases hE
            · split at hE <;> cases hE
        | some st =>
          have := okEmpty hE
          exact ⟨by simp, by simp, hL, h.fs, h.fz, by simp, fun st' hs' => by
            obtain rfl := Option.some.inj hs'
            exact this, fun _ => rfl⟩
      · rw [if_neg hs] at he ⊢
        by_cases h32 : x.fs.length = 32
        · rw [if_pos h32] at he
          cases he
        · rw [if_neg h32] at he ⊢
          have hlz := line_fz he
          have := h.fs
          refine ⟨h.nx1, by dsimp only; omega, hL, by simp; omega, ?_, hb3 _ h2, hbo, fun _ => rfl⟩
          intro f hf
          rcases List.mem_append.1 hf with hf | hf
          · exact h.fz f hf
          · obtain rfl := List.mem_singleton.1 hf
            exact ⟨by dsimp only; omega, by dsimp only; omega, hlz.2.2⟩
theorem one_ok {x : WSt} (h : WOk x) (h3 : x.nx ≤ 3) (c : UInt8) (he : (oneF x c).1 = 0) : WOk' (oneF x c).2 := by
  cases hb : x.bo with
  | some st =>
    have hn3 : x.nx = 3 := h.b3.2 (by rw [hb]; rfl)
    rw [one_body hb hn3] at he ⊢
    obtain ⟨h1, h2, h4⟩ := h.bo st hb
    have hbz : (takeP st c).2 = 0 := by
      refine Classical.byContradiction fun hz => ?_
      exact errF_ne hz he
    refine ⟨h.nx1, h3, h.ln, h.fs, h.fz, by simp [bodyF, hn3], fun st' hs => ?_, h.l3⟩
    obtain rfl := Option.some.inj hs
    exact ⟨takeP_ok h1 c h4, hbz⟩
  | none =>
    have hn3 : x.nx ≤ 2 := by
      have := h.b3
      rw [hb] at this
      simp at this
      omega
    rw [one_line hb] at he ⊢
    unfold lineF at he ⊢
    have hl := h.ln
    by_cases hc : c = 10
    · rw [if_pos hc] at he ⊢
      exact judge_ok h hb hn3 (by simp; omega) he
    · rw [if_neg hc] at he ⊢
      by_cases h1 : x.ln.length + 1 = 1024
      · rw [if_pos h1] at he
        cases he
      · rw [if_neg h1] at he ⊢
        exact ⟨h.nx1, h3, by simp; omega, h.fs, h.fz, h.b3, fun st hs => ⟨(h.bo st hs).1, (h.bo st hs).2.1⟩, fun h9 => by dsimp only at h9; omega⟩
theorem whole_ok {x : WSt} (h : WOk' x) : WOk (wholeF x).2 := by
  cases hb : x.bo with
  | none =>
    rw [whole_none hb]
    have := h.nx5
    exact ⟨h.nx1, by dsimp only; omega, h.ln, h.fs, h.fz, h.b3, (fun st hs => by
      dsimp only at hs
      rw [hb] at hs
      cases hs), h.l3⟩
  | some st =>
    have h3 : x.nx = 3 := h.b3.2 (by rw [hb]; rfl)
    by_cases h9 : st.nx = 9
    · rw [whole_done hb h3 h9]
      refine ⟨by dsimp only; split <;> omega, by dsimp only; split <;> omega, h.ln, by simp, by simp, by dsimp only; split <;> simp, by simp, fun _ => h.l3 h3⟩
    · rw [whole_open hb h9]
      have := h.nx5
      exact ⟨h.nx1, by dsimp only; omega, h.ln, h.fs, h.fz, h.b3, fun st' hs => by
        dsimp only at hs
        rw [hb] at hs
        obtain rfl := Option.some.inj hs
        exact ⟨(h.bo st hb).1, (h.bo st hb).2, h9⟩, h.l3⟩
theorem judge_ln (x : WSt) (L b : Bs) : judgeF { x with ln := L } b = ((judgeF x b).1, { (judgeF x b).2 with ln := L }) := by
  unfold judgeF
  cases textF b with
  | none => rfl
  | some s =>
    dsimp only
    by_cases h1 : x.nx = 1
    · rw [if_pos h1, if_pos h1]
      cases firstF s with
      | none => rfl
      | some p => rfl
    · rw [if_neg h1, if_neg h1]
      by_cases h2 : s = []
      · rw [if_pos h2, if_pos h2]
        generalize emptyF x.fs = r
        obtain ⟨E, o⟩ := r
        split <;> rfl
      · rw [if_neg h2, if_neg h2]
        by_cases h3 : x.fs.length = 32
        · rw [if_pos h3, if_pos h3]
        · rw [if_neg h3, if_neg h3]
end Go.Proofs.YtckkmdigmecagaaGreatDoor

/-
  Package wire: a byte of a line.
-/
namespace Go.Proofs.YtckkmdigmecagaaGreatDoor
open Go.RowKit

section
variable {w w4 : World} {base g : Nat} {x : WSt} {m : WMem}
/-- A line that became longer. -/
theorem WireB.addLn (h : WireB w base g x m) {A : Option Addr} {n c : Nat} {l : Bs} (hg : w.grownBy w4 (blk m.L)) (ho : Own w4 base 5 1 A n c (l.map b8)) (hA : blk A = blk m.L ∨ blk A = some w.heap.size) :
    WireB (w4.setCell ⟨g, 1, none⟩ (.slice A n c)) base g { x with ln := l } { m with L := A, nL := n, cL := c } := by
  have hlt : ∀ k, m.has g k → k < w.heap.size := fun k hk => (h.in_ k hk).2
  have hne : blk A ≠ some g := fun e => by
    rcases hA with h1 | h1
    · exact h.nd.L (h1.symm.trans e)
    · have := h.lt
      have e2 := Option.some.inj (h1.symm.trans e)
      omega
  have hN : ∀ k, m.has g k → blk m.L ≠ some k → blk A ≠ some k := fun k hk h2 e => by
    rcases hA with h1 | h1
    · exact h2 (h1.symm.trans e)
    · have := hlt k hk
      have e2 := Option.some.inj (h1.symm.trans e)
      omega
  have hkeep : ∀ k, m.has g k → blk m.L ≠ some k → k ≠ g → (w4.setCell ⟨g, 1, none⟩ (.slice A n c)).heap[k]? = w.heap[k]? := fun k hk h2 h3 => (setc_other h3.symm).trans (hg.block k (hlt k hk) (fun e => h2 e.symm))
  refine ⟨h.ge, ?_, ?_, ?_, ?_, ?_⟩
  · rw [setc_same _ ((hg.block g h.lt (fun e => h.nd.L e.symm)).trans h.obj)]
    rfl
  · exact ho.keep fun k hk _ _ => setc_other (fun e => hne (by rw [hk, e]))
  · exact h.fs.keep fun k hk _ _ => hkeep k (.inr (.inr (.inl hk))) (fun e => h.nd.LF k e hk) (fun e => h.nd.F (by rw [hk, e]))
  · refine h.bo.keep fun k hk => ?_
    rcases hk with h1 | h1
    · exact hkeep k (.inr (.inr (.inr (.inl h1)))) (fun e => h.nd.LB k e h1) (fun e => h.nd.B (by rw [h1, e]))
    · exact hkeep k (.inr (.inr (.inr (.inr h1)))) (fun e => h.nd.LA k e h1) (fun e => h.nd.A (by rw [h1, e]))
  · exact ⟨hne, h.nd.F, h.nd.B, h.nd.A, fun k hk e => hN k (.inr (.inr (.inl e))) (fun e2 => h.nd.LF k e2 e) hk, fun k hk e => hN k (.inr (.inr (.inr (.inl e)))) (fun e2 => h.nd.LB k e2 e) hk, fun k hk e => hN k (.inr (.inr (.inr (.inr e)))) (fun e2 => h.nd.LA k e2 e) hk, h.nd.FB, h.nd.FA⟩
/-- A line that is empty again. -/
theorem WireB.cutLn (h : WireB w base g x m) : WireB (w.setCell ⟨g, 1, none⟩ (.slice m.L 0 m.cL)) base g { x with ln := [] } { m with nL := 0 } := by
  have ho : Own w base 5 1 m.L 0 m.cL (([] : Bs).map b8) := by simpa using h.ln.cut0 (Nat.zero_le m.nL)
  refine ⟨h.ge, by rw [setc_same _ h.obj]; rfl, ho.keep fun k hk _ _ => setc_other (fun e => h.nd.L (by rw [hk, e])), h.fs.keep fun k hk _ _ => setc_other (fun e => h.nd.F (by rw [hk, e])), h.bo.keep fun k hk => setc_other (fun e => ?_), ⟨h.nd.L, h.nd.F, h.nd.B, h.nd.A, h.nd.LF, h.nd.LB, h.nd.LA, h.nd.FB, h.nd.FA⟩⟩
  rcases hk with h1 | h1
  · exact h.nd.B (by rw [h1, e])
  · exact h.nd.A (by rw [h1, e])
end
theorem WStep.after {w w1 w2 : World} {base g : Nat} {m m1 : WMem} {y : WSt} (hb : But (m.has g) w w1) (h1 : ∀ k, m1.has g k → m.has g k ∨ w.heap.size ≤ k) (hs : WStep w1 base g m1 w2 y) : WStep w base g m w2 y := by
  obtain ⟨m2, hw, hb2, hn⟩ := hs
  exact ⟨m2, hw, hb.trans hb2 h1, fun k hk => (hn k hk).elim (h1 k) (fun h => .inr (Nat.le_trans hb.size h))⟩
theorem has_ln {w : World} {g n c k : Nat} {m : WMem} {A : Option Addr} (hA : blk A = blk m.L ∨ blk A = some w.heap.size) (hk : ({ m with L := A, nL := n, cL := c } : WMem).has g k) : m.has g k ∨ w.heap.size ≤ k := by
  rcases hk with h1 | h1 | h1 | h1 | h1
  · exact .inl (.inl h1)
  · rcases hA with h2 | h2
    · exact .inl (.inr (.inl (h2.symm.trans h1)))
    · have e := Option.some.inj (h2.symm.trans h1)
      exact .inr (by omega)
  · exact .inl (.inr (.inr (.inl h1)))
  · exact .inl (.inr (.inr (.inr (.inl h1))))
  · exact .inl (.inr (.inr (.inr (.inr h1))))
theorem app_facts {w w2 : World} {base g : Nat} {x : WSt} {m : WMem} {ob : Obj} (h : WireB w base g x m) (hg : (w.alloc ob).grownBy w2 (blk m.L)) : w2.cell? ⟨g, 1, none⟩ = some (.slice m.L m.nL m.cL) ∧ w2.frozen? ⟨g, 1, none⟩ = false := by
  have hob := (hg.block g (by have := h.lt; simp; omega) (fun e => h.nd.L e.symm)).trans ((Below.heap_alloc w ob g h.lt).trans h.obj)
  exact ⟨by simp [World.cell?, hob, wireCells], by simp [World.frozen?, hob]⟩
def Lineed (x : WSt) (c : UInt8) (w : World) (base g : Nat) (m : WMem) (e : Ending) (w' : World) : Prop :=
  e = .returned (.int .i64 (lineF x c).1) ∧ ∃ y, WStep w base g m w' y ∧ ((lineF x c).1 = 0 → y = (lineF x c).2)

set_option maxRecDepth 20000 in
set_option maxHeartbeats 8000000 in
theorem wtake_any {w : World} {base g : Nat} {x : WSt} {m : WMem} (h : WireB w base g x m) (hk : WOk x) (hbo : x.bo = none) (hm : Mx w) (h0 : mxb < base) (ch : UInt8) :
    Calls Tryz.prog 24 #[.pointer (some ⟨g, 0, none⟩), b8 ch] w (Lineed x ch w base g m) := by
  have hln : x.ln.length = m.nL := h.ln.rd.lenb
  have hl3 := hk.ln
  have hlf : lineF x ch = if ch = 10 then ((judgeF x (x.ln ++ [ch])).1, { (judgeF x (x.ln ++ [ch])).2 with ln := [] })
    else if x.ln.length + 1 = 1024 then (2, x) else (0, { x with ln := x.ln ++ [ch] }) := rfl
  have hglt := h.lt
  have hge : base ≤ w.heap.size := Nat.le_trans h.ge (Nat.le_of_lt hglt)
  obtain ⟨c0, c1, c2, c3, c4, c5, c6, c7⟩ := h.cells
  have hmx : m.nL ≤ m.cL := h.ln.rd.le
  have hd : ((ch.toNat : Int) == 10) = decide (ch = 10) := by
    rw [Bool.eq_iff_iff, beq_iff_eq, decide_eq_true_iff]
    constructor
    · intro e
      exact UInt8.toNat_inj.1 (by show ch.toNat = 10; omega)
    · rintro rfl
      rfl
  clear c0 c2 c3 c4 c5 c6 c7
  unfold b8
  by_cases hc : ch = 10
  · rw [if_pos hc] at hlf
    have hj := judge_ln x (x.ln ++ [ch]) (x.ln ++ [ch])
    have HLF := Lib.hid hlf
    have HJ := Lib.hid hj
    rw [decide_eq_true hc] at hd
    obtain ⟨V, hV⟩ : ∃ V, (ch.toNat : Int) = V := ⟨_, rfl⟩
    have hb8 : b8 ch = .int .u8 V := by rw [← hV]; rfl
    rw [hV] at hd ⊢
    clear hlf hj hc hV
    go_enter Tryz.func24, Tryz.ntmps24
    go_wp2_with (at_builtin; refine wpList_app rfl _ _ rfl eb (h.ln.alloc _) rfl (Rd.lit _ [_] _ 1 rfl (by unfold maxLen; omega)) rfl (by intro u hu; obtain rfl := List.mem_singleton.1 hu; rfl) (by omega) (by unfold maxLen; omega) (by simp; omega) ?_; intro A2 k2 w2 ho2 hg2 hq2; obtain ⟨d1, f1⟩ := app_facts h hg2)
    have hbA : Below w.heap.size w (w.alloc (.cells #[.int .u8 V] 5)) := (Below.refl _ _).alloc (Nat.le_refl _) _
    have hw3 := (h.below hbA).addLn (l := x.ln ++ [ch]) hg2 (by rw [List.map_append, List.map_singleton, hb8]; exact ho2) hq2
    have hbt : But (m.has g) w (w2.setCell ⟨g, 1, none⟩ (.slice A2 (m.nL + 1) k2)) := ((But.of_below hbA).trans (But.of_grown hg2 (S := m.has g) (fun q e => .inr (.inl e))) (fun _ h => .inl h)).setg (.inl rfl) 1 _
    have hm3 := mx_but hm hbt (fun q hq => Nat.le_trans h0 (h.in_ q hq).1)
    have hq3 : blk A2 = blk m.L ∨ ∃ q, blk A2 = some q ∧ w.heap.size ≤ q := hq2.imp id (fun e => ⟨_, e, by simp⟩)
    have HQ3 := Lib.hid hq3
    have HBT := Lib.hid hbt
    have HJA := judge_any hw3 ⟨hk.fs, hk.fz⟩ hbo hm3 h0 hw3.ln.rd (show m.nL + 1 ≤ 1024 by omega)
    clear hbA hw3 hbt hm3 hq3 c1 d1 f1 ho2 hg2 hq2
    refine HJA.mono ?_
    rintro e w4 ⟨rfl, y, ⟨m4, hw4, hb4, hn4⟩, hy⟩
    have c14 := hw4.cells.2.1
    have f14 := hw4.free 1
    have hst : WStep w base g m (w4.setCell ⟨g, 1, none⟩ (.slice m4.L 0 m4.cL)) { y with ln := [] } := by
      refine WStep.after HBT.out (fun k hk => ?_) ⟨_, hw4.cutLn, hb4.setg (.inl rfl) 1 _, fun k hk => hn4 k hk⟩
      rcases hk with h1 | h1 | h1 | h1 | h1
      · exact .inl (.inl h1)
      · rcases HQ3.out with h2 | ⟨q, h2, h3⟩
        · exact .inl (.inr (.inl (h2.symm.trans h1)))
        · obtain rfl := Option.some.inj (h2.symm.trans h1)
          exact .inr h3
      · exact .inl (.inr (.inr (.inl h1)))
      · exact .inl (.inr (.inr (.inr (.inl h1))))
      · exact .inl (.inr (.inr (.inr (.inr h1))))
    have HST := Lib.hid hst
    have hcl := hw4.ln.rd.le
    have hcm := hw4.ln.rd.max
    have hnl := hw4.ln.rd.nil
    unfold maxLen at hcm
    have hy' : (lineF x ch).1 = 0 → { y with ln := [] } = (lineF x ch).2 := by
      rw [HLF.out]
      intro h1
      rw [HJ.out] at hy
      rw [hy h1]
    have HY := Lib.hid hy'
    clear hw4 hb4 hn4 hy hst hy' HJA
    rw [HJ.out]
    go_wp2_with fail
    go_ret
    exact ⟨by rw [HLF.out]; rfl, _, HST.out, HY.out⟩
  · rw [if_neg hc] at hlf
    rw [decide_eq_false hc] at hd
    obtain ⟨V, hV⟩ : ∃ V, (ch.toNat : Int) = V := ⟨_, rfl⟩
    have hb8 : b8 ch = .int .u8 V := by rw [← hV]; rfl
    rw [hV] at hd ⊢
    have HLF := Lib.hid hlf
    clear hlf hc hV
    go_enter Tryz.func24, Tryz.ntmps24
    have hall : ∀ A2 k2 w2, Own w2 base 5 1 A2 (m.nL + 1) k2 (List.map b8 x.ln ++ [.int .u8 V]) → (w.alloc (.cells #[.int .u8 V] 5)).grownBy w2 (blk m.L) → (blk A2 = blk m.L ∨ blk A2 = some (w.alloc (.cells #[.int .u8 V] 5)).heap.size) → WStep w base g m (w2.setCell ⟨g, 1, none⟩ (.slice A2 (m.nL + 1) k2)) { x with ln := x.ln ++ [ch] } := by
      intro A2 k2 w2 ho2 hg2 hq2
      have hbA : Below w.heap.size w (w.alloc (.cells #[.int .u8 V] 5)) := (Below.refl _ _).alloc (Nat.le_refl _) _
      have hw3 := (h.below hbA).addLn (l := x.ln ++ [ch]) hg2 (by rw [List.map_append, List.map_singleton, hb8]; exact ho2) hq2
      refine ⟨_, hw3, ((But.of_below hbA).trans (But.of_grown hg2 (S := m.has g) (fun q e => .inr (.inl e))) (fun _ h => .inl h)).setg (.inl rfl) 1 _, fun k hk => ?_⟩
      rcases hk with h1 | h1 | h1 | h1 | h1
      · exact .inl (.inl h1)
      · rcases hq2 with h2 | h2
        · exact .inl (.inr (.inl (h2.symm.trans h1)))
        · have e := Option.some.inj (h2.symm.trans h1)
          have : w.heap.size ≤ (w.alloc (.cells #[.int .u8 V] 5)).heap.size := by simp
          exact .inr (by omega)
      · exact .inl (.inr (.inr (.inl h1)))
      · exact .inl (.inr (.inr (.inr (.inl h1))))
      · exact .inl (.inr (.inr (.inr (.inr h1))))
    by_cases h1023 : m.nL + 1 = 1024
    · have hd4 : ((m.nL : Int) + 1 == 1024) = true := by rw [beq_iff_eq]; omega
      have hlf2 := HLF.out
      rw [if_pos (by omega)] at hlf2
      have HLF2 := Lib.hid hlf2
      have hnl : m.nL ≤ 1023 := by omega
      clear h1023 hlf2 HLF
      go_wp2_with (at_builtin; refine wpList_app rfl _ _ rfl eb (h.ln.alloc _) rfl (Rd.lit _ [_] _ 1 rfl (by unfold maxLen; omega)) rfl (by intro u hu; obtain rfl := List.mem_singleton.1 hu; rfl) (by omega) (by unfold maxLen; omega) (by simp; omega) ?_; intro A2 k2 w2 ho2 hg2 hq2; obtain ⟨d1, f1⟩ := app_facts h hg2; have HST := Lib.hid (hall A2 k2 w2 ho2 hg2 hq2); clear ho2 hg2 hq2)
      go_ret
      exact ⟨by rw [HLF2.out]; rfl, _, HST.out, fun h1 => by rw [HLF2.out] at h1; cases h1⟩
    · have hd4 : ((m.nL : Int) + 1 == 1024) = false := by
        rw [beq_eq_false_iff_ne]
        omega
      have hlf2 := HLF.out
      rw [if_neg (by omega)] at hlf2
      have HLF2 := Lib.hid hlf2
      have hnl : m.nL ≤ 1023 := by omega
      clear h1023 hlf2 HLF
      go_wp2_with (at_builtin; refine wpList_app rfl _ _ rfl eb (h.ln.alloc _) rfl (Rd.lit _ [_] _ 1 rfl (by unfold maxLen; omega)) rfl (by intro u hu; obtain rfl := List.mem_singleton.1 hu; rfl) (by omega) (by unfold maxLen; omega) (by simp; omega) ?_; intro A2 k2 w2 ho2 hg2 hq2; obtain ⟨d1, f1⟩ := app_facts h hg2; have HST := Lib.hid (hall A2 k2 w2 ho2 hg2 hq2); clear ho2 hg2 hq2)
      go_ret
      exact ⟨by rw [HLF2.out]; rfl, _, HST.out, fun h1 => by rw [HLF2.out]⟩

end Go.Proofs.YtckkmdigmecagaaGreatDoor

/-
  Package wire: a request that is whole.
-/
namespace Go.Proofs.YtckkmdigmecagaaGreatDoor
open Go.RowKit

theorem load_req {w : World} {base g : Nat} {x : WSt} {m : WMem} (h : WireB w base g x m) : (loadVar 42 ⟨g, 2, none⟩).run Tryz.prog w = .ok (.agg (reqA x.m x.t m.F m.nF m.cF none 0 0 x.kp)) w := by
  have ho := h.obj
  have hl := run_loadCells_list (P := Tryz.prog) w ⟨g, 2, none⟩ (reqA x.m x.t m.F m.nF m.cF none 0 0 x.kp).toList (fun j v hv => by
    match j, hv with
    | 0, hv => obtain rfl := Option.some.inj hv; simp [World.cell?, Addr.add, ho, wireCells]
    | 1, hv => obtain rfl := Option.some.inj hv; simp [World.cell?, Addr.add, ho, wireCells]
    | 2, hv => obtain rfl := Option.some.inj hv; simp [World.cell?, Addr.add, ho, wireCells]
    | 3, hv => obtain rfl := Option.some.inj hv; simp [World.cell?, Addr.add, ho, wireCells]
    | 4, hv => obtain rfl := Option.some.inj hv; simp [World.cell?, Addr.add, ho, wireCells])
  have e : (reqA x.m x.t m.F m.nF m.cF none 0 0 x.kp).toList.length = 5 := rfl
  rw [e] at hl
  simp [loadVar, isAgg, run_underlying Tryz.underlying42, sizeOf_run size_req0, hl, reqA]
theorem load_reqs {w : World} {q : Nat} {M T : Bs} {A B : Option Addr} {n c k d : Nat} {kp : Bool} {t : TypeId} {fr : Nat × Nat} (h : w.heap[q]? = some (.cells (reqA M T A n c B k d kp) t fr)) : (loadVar 42 ⟨q, 0, none⟩).run Tryz.prog w = .ok (.agg (reqA M T A n c B k d kp)) w := by
  have hl := run_loadCells_list (P := Tryz.prog) w ⟨q, 0, none⟩ (reqA M T A n c B k d kp).toList (fun j v hv => by
    match j, hv with
    | 0, hv => obtain rfl := Option.some.inj hv; simp [World.cell?, Addr.add, h, reqA]
    | 1, hv => obtain rfl := Option.some.inj hv; simp [World.cell?, Addr.add, h, reqA]
    | 2, hv => obtain rfl := Option.some.inj hv; simp [World.cell?, Addr.add, h, reqA]
    | 3, hv => obtain rfl := Option.some.inj hv; simp [World.cell?, Addr.add, h, reqA]
    | 4, hv => obtain rfl := Option.some.inj hv; simp [World.cell?, Addr.add, h, reqA])
  have e : (reqA M T A n c B k d kp).toList.length = 5 := rfl
  rw [e] at hl
  simp [loadVar, isAgg, run_underlying Tryz.underlying42, sizeOf_run size_req0, hl, reqA]
/-- No body any more. -/
theorem WireB.noBody {w : World} {base g : Nat} {x : WSt} {m : WMem} (h : WireB w base g x m) : WireB (w.setCell ⟨g, 7, none⟩ (.pointer none)) base g { x with bo := none } { m with pb := none, A := none, n := 0, c := 0 } := by
  refine ⟨h.ge, by rw [setc_same _ h.obj]; rfl, h.ln.keep fun k hk _ _ => setc_other (fun e => h.nd.L (by rw [hk, e])), h.fs.keep fun k hk _ _ => setc_other (fun e => h.nd.F (by rw [hk, e])), ⟨rfl, rfl⟩, ⟨h.nd.L, h.nd.F, by simp, by simp [blk], h.nd.LF, by simp, by simp [blk], by simp, by simp [blk]⟩⟩
def Wholed (x : WSt) (w : World) (base g : Nat) (m : WMem) (e : Ending) (w' : World) : Prop :=
  ((wholeF x).1 = none ∧ e = .returned (.tuple #[.agg reqZ, .bool false]) ∧ Below w.heap.size w w') ∨
  ∃ q D nD cD m', (wholeF x).1 = some q ∧ e = .returned (.tuple #[.agg (reqA q.m q.t m.F m.nF m.cF D nD cD q.kp), .bool true]) ∧ WireB w' base g (wholeF x).2 m' ∧ Own w' w.heap.size 5 1 D nD cD (q.bd.map b8) ∧ Own w' base 44 2 m.F m.nF m.cF (Fl.fdL q.fs) ∧ But (· = g) w w' ∧ ∀ k, m'.has g k → m.has g k ∧ blk m.F ≠ some k

set_option maxRecDepth 20000 in
set_option maxHeartbeats 8000000 in
theorem whole_any {w : World} {base g : Nat} {x : WSt} {m : WMem} (h : WireB w base g x m) (hk : WOk' x) :
    Calls Tryz.prog 25 #[.pointer (some ⟨g, 0, none⟩)] w (Wholed x w base g m) := by
  have HB := Lib.hid h
  have hglt := h.lt
  obtain ⟨c0, c1, c2, c3, c4, c5, c6, c7⟩ := h.cells
  clear c1 c2 c3 c4 c5 c6
  cases hb : x.bo with
  | none =>
    have h3 : ((x.nx : Int) != 3) = true := by
      have := hk.b3
      rw [hb] at this
      simp at this
      simp
      omega
    have HN := Lib.hid (whole_none hb)
    go_enter Tryz.func25, Tryz.ntmps25
    go_wp2_with (first
      | (refine wpList_alloc_zero rfl _ rfl reqZ zero_req ?_; intro w1 hg1 hb1 hz1; clear hz1; have k0 := (World.cell?_of_block (hb1.block g hglt)).trans c0)
      | (refine wpList_build_run rfl _ _ rfl #[] (by rfl) _ (build_req0 _) ?_)
      | (refine wpList_store_all rfl _ _ _ rfl w.heap.size rfl _ reqZ reqZ rfl hg1 size_req rfl req_one ?_; intro wz hgz hgrz hzz; clear hzz))
    refine bodyPost_ret (results_cell_tmp rfl _ _ w.heap.size _ _ _ _ rfl hgz Tryz.underlying42 rfl size_req _ rfl) rfl ?_
    exact .inl ⟨by rw [HN.out], rfl, hb1.grown hgrz hb1.size (fun q hq => by obtain rfl := Option.some.inj hq; exact Nat.le_refl _)⟩
  | some st =>
    have h3 : x.nx = 3 := hk.b3.2 (by rw [hb]; rfl)
    have hbo := h.bo
    rw [hb] at hbo
    obtain ⟨gb, hpb, hbody⟩ := hbo
    rw [h3] at c0
    rw [hpb] at c7
    unfold ptrV at c7
    have hst := hk.bo st hb
    have HD := Lib.hid (fun W (hbl : Below w.heap.size w W) => Done_any (hbody.below hbl))
    have HDA := Lib.hid (fun W (hbl : Below w.heap.size w W) => Data_any (hbody.below hbl) (by have := hst.1.len; omega))
    by_cases h9 : st.nx = 9
    · have HN := Lib.hid (whole_done hb h3 h9)
      have hd9 : (st.nx == 9) = true := by simpa using h9
      rw [hd9] at HD
      have HF := Lib.hid h.fs
      clear h9 hd9 h hst hbody
      obtain ⟨kp, hkp⟩ : ∃ b, x.kp = b := ⟨_, rfl⟩
      go_enter Tryz.func25, Tryz.ntmps25
      go_wp2_with (refine wpList_alloc_zero rfl _ rfl reqZ zero_req ?_; intro w1 hg1 hb1 hz1; clear hz1; have k0 := (World.cell?_of_block (hb1.block g hglt)).trans c0; have k7 := (World.cell?_of_block (hb1.block g hglt)).trans c7)
      refine (HD.out _ hb1).mono ?_
      rintro e w2 ⟨rfl, rfl⟩
      have hW1 := HB.out.below hb1
      have HLD := Lib.hid (load_req hW1)
      rw [hkp] at HLD
      have hlt1 : w.heap.size < w1.heap.size := (Array.getElem?_eq_some_iff.1 hg1).1
      clear k0 k7
      go_wp2_with (first
        | (refine wpList_load_run rfl _ _ rfl _ rfl _ HLD.out ?_)
        | (refine wpList_alloc_zero rfl _ rfl reqZ zero_req ?_; intro w2 hg2 hb2 hz2; clear hz2)
        | (refine wpList_store_all rfl _ _ _ rfl w1.heap.size rfl _ _ _ rfl hg2 size_req rfl req_one ?_; intro w3 hg3 hgr3 hz3; have b13 : Below w1.heap.size w1 w3 := hb2.grown hgr3 hb2.size (fun q hq => by obtain rfl := Option.some.inj hq; exact Nat.le_refl _); have k7 := (hW1.below b13).cells.2.2.2.2.2.2.2; rw [hpb] at k7; unfold ptrV at k7; clear hg2 hgr3 hz3 hb2))
      have hB3 := hb1.trans (b13.mono hb1.size)
      refine (HDA.out _ hB3).mono ?_
      rintro e w4 ⟨D, nD, cD, rfl, ho4, hb4⟩
      have hlt3 : w1.heap.size < w3.heap.size := (Array.getElem?_eq_some_iff.1 hg3).1
      have g4 : w4.heap[w1.heap.size]? = _ := (hb4.block _ hlt3).trans hg3
      have z4 : w4.heap[w.heap.size]? = _ := (hb4.block _ (Nat.lt_trans hlt1 hlt3)).trans ((b13.block _ hlt1).trans hg1)
      have b4 : Below w.heap.size w w4 := hB3.trans (hb4.mono hB3.size)
      have hW4 := HB.out.below b4
      have hne : w1.heap.size ≠ g := by omega
      have hne0 : w.heap.size ≠ g := by omega
      have hs13 : w.heap.size ≤ w3.heap.size := by omega
      have hsz4 : w3.heap.size ≤ w4.heap.size := hb4.size
      have hW5 : WireB (w4.setCell ⟨w1.heap.size, 3, none⟩ (.slice D nD cD)) base g x m := hW4.keep fun k hk => setc_other (fun e => by have := (HB.out.in_ k hk).2; omega)
      have g5 : (w4.setCell ⟨w1.heap.size, 3, none⟩ (.slice D nD cD)).heap[w1.heap.size]? = some (.cells (reqA x.m x.t m.F m.nF m.cF D nD cD kp) 42 (0, 0)) := setc_same (.slice D nD cD) g4
      have z5 : (w4.setCell ⟨w1.heap.size, 3, none⟩ (.slice D nD cD)).heap[w.heap.size]? = _ := (setc_other (show w1.heap.size ≠ w.heap.size by omega)).trans z4
      have bt5 : But (· = g) w (w4.setCell ⟨w1.heap.size, 3, none⟩ (.slice D nD cD)) := (But.of_below b4).set _ (.inr (by show w.heap.size ≤ w1.heap.size; omega))
      have hDb : ∀ k, blk D = some k → w3.heap.size ≤ k ∧ k < w4.heap.size := ho4.lt
      have ho5 : Own (w4.setCell ⟨w1.heap.size, 3, none⟩ (.slice D nD cD)) w.heap.size 5 1 D nD cD (st.got.map b8) := (ho4.mono hs13).keep fun k hk _ _ => setc_other (fun e => by have := hDb k hk; omega)
      have k43 : w4.cell? ⟨w1.heap.size, 3, none⟩ = some (.slice none 0 0) := cell_of g4 rfl
      have f43 : w4.frozen? ⟨w1.heap.size, 3, none⟩ = false := frozen_of g4
      have hgltA : g < (w4.setCell ⟨w1.heap.size, 3, none⟩ (.slice D nD cD)).heap.size := hW5.lt
      clear g4 z4 b4 hW4 ho4 hb4 hg3 b13 k7 hW1 hg1 hb1 c0 c7 HLD HD HDA hB3
      have hl5 : w1.heap.size < (w4.setCell ⟨w1.heap.size, 3, none⟩ (.slice D nD cD)).heap.size := (Array.getElem?_eq_some_iff.1 g5).1
      have hl05 : w.heap.size < (w4.setCell ⟨w1.heap.size, 3, none⟩ (.slice D nD cD)).heap.size := (Array.getElem?_eq_some_iff.1 z5).1
      have hneg : g ≠ w1.heap.size := hne.symm
      have hneg0 : g ≠ w.heap.size := hne0.symm
      have hn01 : w1.heap.size ≠ w.heap.size := by omega
      have HQ := Lib.hid (fun w6 (hg6 : (w4.setCell ⟨w1.heap.size, 3, none⟩ (.slice D nD cD)).grownBy w6 (some g)) => (show w6.heap[w1.heap.size]? = _ ∧ w6.heap[w.heap.size]? = _ ∧ Own w6 w.heap.size 5 1 D nD cD (st.got.map b8) ∧ But (· = g) w w6 from ⟨(hg6.block _ hl5 (fun e => hne (Option.some.inj e))).trans g5, (hg6.block _ hl05 (fun e => hne0 (Option.some.inj e))).trans z5, ho5.grown hg6 (fun k hk e => by
        have h1 := hDb k hk
        have h2 := Option.some.inj e
        omega), bt5.trans (But.of_grown hg6 (S := (· = g)) (fun q e => (Option.some.inj e).symm)) (fun _ h => .inl h)⟩))
      have hDn : ∀ k, blk D = some k → k ≠ g ∧ k ≠ w1.heap.size ∧ k ≠ w.heap.size := fun k hk => by have := hDb k hk; omega
      have HDN := Lib.hid hDn
      have HW5 := Lib.hid hW5
      have HH := Lib.hid (show w.heap.size < w1.heap.size ∧ g < w.heap.size from ⟨hlt1, hglt⟩)
      clear hDn hDb ho5 bt5 g5 z5 hl5 hl05 hgltA hs13 hsz4 hlt3 hlt1 hglt hW5 hne hne0 hn01 hneg hneg0
      go_upto_region 6 with (first
        | (refine wpList_build_run rfl _ _ rfl #[] (by rfl) _ (build_req0 _) ?_)
        | (refine wpList_store_req rfl _ _ rfl rfl (show Value.agg reqZ = _ from rfl) HW5.out ?_; intro w6 hW6 hg6 hz6; clear hz6 k43 f43; have k67 := hW6.cells.2.2.2.2.2.2.2; have f67 := hW6.free 7; dsimp only at k67; have hN7 := hW6.noBody; have k70 := hN7.cells.1; have f70 := hN7.free 0; dsimp only at k70; have HG6 := Lib.hid hg6; clear hg6))
      obtain ⟨g6, z6, ho6, bt6⟩ := HQ.out _ HG6.out
      clear k67 f67 k70 f70
      have hn1 : g ≠ w1.heap.size := by have := HH.out; omega
      have hn2 : g ≠ w.heap.size := by have := HH.out; omega
      have hw8 : (w6.setCell ⟨g, 7, none⟩ (.pointer none)).setCell ⟨g, 0, none⟩ (.int .i64 1) = (w6.setCell ⟨g, 7, none⟩ (.pointer none)).setCell ⟨g, 0, none⟩ (.int .i64 ((1 : Nat) : Int)) := rfl
      have hN0 : WireB ((w6.setCell ⟨g, 7, none⟩ (.pointer none)).setCell ⟨g, 0, none⟩ (.int .i64 1)) base g _ _ := hN7.setNx 1
      have g8 : ((w6.setCell ⟨g, 7, none⟩ (.pointer none)).setCell ⟨g, 0, none⟩ (.int .i64 1)).heap[w1.heap.size]? = _ := (setc_other hn1).trans ((setc_other hn1).trans g6)
      have z8 : ((w6.setCell ⟨g, 7, none⟩ (.pointer none)).setCell ⟨g, 0, none⟩ (.int .i64 1)).heap[w.heap.size]? = _ := (setc_other hn2).trans ((setc_other hn2).trans z6)
      have ho8 : Own ((w6.setCell ⟨g, 7, none⟩ (.pointer none)).setCell ⟨g, 0, none⟩ (.int .i64 1)) w.heap.size 5 1 D nD cD (st.got.map b8) := ho6.keep fun k hk _ _ => (setc_other (HDN.out k hk).1.symm).trans (setc_other (HDN.out k hk).1.symm)
      have bt8 : But (· = g) w ((w6.setCell ⟨g, 7, none⟩ (.pointer none)).setCell ⟨g, 0, none⟩ (.int .i64 1)) := (bt6.set _ (.inl rfl)).set _ (.inl rfl)
      dsimp only at hN0
      clear hN7 hW6 g6 z6 ho6 bt6 hw8 HG6 HQ
      generalize (w6.setCell ⟨g, 7, none⟩ (.pointer none)).setCell ⟨g, 0, none⟩ (.int .i64 1) = w8 at hN0 g8 z8 ho8 bt8 ⊢
      have k84 : w8.cell? ⟨w1.heap.size, 4, none⟩ = some (.bool kp) := cell_of g8 rfl
      have k80 := hN0.cells.1
      have f80 := hN0.free 0
      dsimp only at k80
      have hfin : ∀ (w9 wz : World) (n : Nat), n = (if kp then 1 else 4) → WireB w9 base g ⟨n, x.ln, [], [], [], false, none⟩ { m with F := none, nF := 0, cF := 0, pb := none, A := none, n := 0, c := 0 } → w9.heap.size = w8.heap.size → (∀ k, k ≠ g → w9.heap[k]? = w8.heap[k]?) → But (· = g) w w9 → w9.grownBy wz (some w.heap.size) → Wholed x w base g m (.returned (.tuple #[.agg (reqA x.m x.t m.F m.nF m.cF D nD cD kp), .bool true])) wz := by
        intro w9 wz n hn h9 hs9 hk9 hb9 hgz
        have hlz := HH.out
        have hno : ∀ k, (∃ q, k = q ∧ m.has g q) → k ≠ w.heap.size := fun k ⟨q, e, hq⟩ => by have := (HB.out.in_ q hq).2; omega
        refine .inr ⟨_, D, nD, cD, { m with F := none, nF := 0, cF := 0, pb := none, A := none, n := 0, c := 0 }, by rw [HN.out], by rw [← hkp], ?_, ?_, ?_, ?_, ?_⟩
        · rw [HN.out]
          dsimp only
          rw [hkp, ← hn]
          refine h9.keep fun k hk => hgz.block k (h9.in_ k hk).2 (fun e => ?_)
          have e2 := Option.some.inj e
          rcases hk with h1 | h1 | h1 | h1 | h1
          · omega
          · exact hno k ⟨k, rfl, .inr (.inl h1)⟩ e2
          · simp [blk] at h1
          · cases h1
          · simp [blk] at h1
        · exact (ho8.keep fun k hk _ _ => hk9 k (HDN.out k hk).1).grown hgz (fun k hk e => (HDN.out k hk).2.2 (Option.some.inj e).symm)
        · refine HF.out.keep fun k hk _ hlt => ?_
          have hkg : k ≠ g := fun e => HB.out.nd.F (by rw [hk, e])
          exact (hgz.block k (by have := hb9.size; omega) (fun e => by have := Option.some.inj e; omega)).trans (hb9.block k hlt hkg)
        · exact hb9.trans (But.of_grown hgz (S := fun k => w.heap.size ≤ k) (fun q e => by have := Option.some.inj e; show w.heap.size ≤ q; omega)) (fun i hi => .inr hi)
        · intro k hk
          rcases hk with h1 | h1 | h1 | h1 | h1
          · exact ⟨.inl h1, fun e => HB.out.nd.F (by rw [e, h1])⟩
          · exact ⟨.inr (.inl h1), HB.out.nd.LF k h1⟩
          · simp [blk] at h1
          · cases h1
          · simp [blk] at h1
      have HFIN := Lib.hid hfin
      have HN0 := Lib.hid hN0
      have HB8 := Lib.hid bt8
      clear ho8 bt8 hfin hN0
      cases kp
      · go_wp2_with (first
          | (refine wpList_load_run rfl _ _ rfl _ rfl _ (load_reqs ((setc_other hn1).trans g8)) ?_)
          | (refine wpList_store_all rfl _ _ _ rfl w.heap.size rfl _ _ _ rfl ((setc_other hn2).trans z8) size_req rfl req_one ?_; intro wz hgz hgrz hzz; clear hzz))
        refine bodyPost_ret (results_cell_tmp rfl _ _ w.heap.size _ _ _ _ rfl hgz Tryz.underlying42 rfl size_req _ rfl) rfl ?_
        exact HFIN.out _ wz 4 rfl (HN0.out.setNx 4) (by simp) (fun k hk => setc_other hk.symm) (HB8.out.set _ (.inl rfl)) hgrz
      · go_wp2_with (first
          | (refine wpList_load_run rfl _ _ rfl _ rfl _ (load_reqs g8) ?_)
          | (refine wpList_store_all rfl _ _ _ rfl w.heap.size rfl _ _ _ rfl z8 size_req rfl req_one ?_; intro wz hgz hgrz hzz; clear hzz))
        refine bodyPost_ret (results_cell_tmp rfl _ _ w.heap.size _ _ _ _ rfl hgz Tryz.underlying42 rfl size_req _ rfl) rfl ?_
        exact HFIN.out _ wz 1 rfl HN0.out rfl (fun k hk => rfl) HB8.out hgrz
    · have HN := Lib.hid (whole_open hb h9)
      have hd9 : (st.nx == 9) = false := by simpa using h9
      rw [hd9] at HD
      clear h9 hd9
      go_enter Tryz.func25, Tryz.ntmps25
      go_wp2_with (refine wpList_alloc_zero rfl _ rfl reqZ zero_req ?_; intro w1 hg1 hb1 hz1; clear hz1; have k0 := (World.cell?_of_block (hb1.block g hglt)).trans c0; have k7 := (World.cell?_of_block (hb1.block g hglt)).trans c7)
      refine (HD.out _ hb1).mono ?_
      rintro e w2 ⟨rfl, rfl⟩
      go_wp2_with (first
        | (refine wpList_build_run rfl _ _ rfl #[] (by rfl) _ (build_req0 _) ?_)
        | (refine wpList_store_all rfl _ _ _ rfl w.heap.size rfl _ reqZ reqZ rfl hg1 size_req rfl req_one ?_; intro wz hgz hgrz hzz; clear hzz))
      refine bodyPost_ret (results_cell_tmp rfl _ _ w.heap.size _ _ _ _ rfl hgz Tryz.underlying42 rfl size_req _ rfl) rfl ?_
      exact .inl ⟨by rw [HN.out], rfl, hb1.grown hgrz hb1.size (fun q hq => by obtain rfl := Option.some.inj hq; exact Nat.le_refl _)⟩

end Go.Proofs.YtckkmdigmecagaaGreatDoor

/-
  Plain: a line is fed.
-/
namespace Go.Proofs.YtckkmdigmecagaaGreatDoor
open Go.RowKit

theorem line_on {x : WSt} {c : UInt8} (hc : c ≠ 10) (hl : x.ln.length + 1 ≠ 1024) : lineF x c = (0, { x with ln := x.ln ++ [c] }) := by
  unfold lineF
  rw [if_neg hc, if_neg hl]
theorem feed_on1 {x : WSt} {c : UInt8} {l : Bs} (hb : x.bo = none) (h4 : x.nx ≠ 4) (hc : c ≠ 10) (hl : x.ln.length + 1 ≠ 1024) : feedW x (c :: l) = feedW { x with ln := x.ln ++ [c] } l := by
  rw [feed_cons h4, one_line hb, line_on hc hl]
  dsimp only
  rw [if_neg (by decide), whole_none (x := { x with ln := x.ln ++ [c] }) hb]
  simp
/-- What comes behind a line that was looked at. -/
def afterL (j : Int × WSt) (l : Bs) : List Rqp × WSt × Int :=
  if j.1 ≠ 0 then ([], badW, j.1) else ((wholeF { j.2 with ln := [] }).1.toList ++ (feedW (wholeF { j.2 with ln := [] }).2 l).1, (feedW (wholeF { j.2 with ln := [] }).2 l).2)
theorem feed_line : ∀ (r : Bs) (x : WSt) (k : Nat), x.bo = none → x.nx ≠ 4 → r[k]? = some 10 → (10 : UInt8) ∉ r.take k → x.ln.length + k ≤ 1023 → feedW x r = afterL (judgeF x (x.ln ++ r.take (k + 1))) (r.drop (k + 1))
  | [], x, k, _, _, hk, _, _ => by simp at hk
  | c :: l, x, 0, hb, h4, hk, _, _ => by
    obtain rfl : c = 10 := by simpa using hk
    rw [feed_cons h4, one_line hb]
    unfold lineF
    rw [if_pos rfl]
    rfl
  | c :: l, x, k + 1, hb, h4, hk, hn, hl => by
    have hc : c ≠ 10 := fun e => hn (by simp [e])
    rw [feed_on1 hb h4 hc (by omega), feed_line l { x with ln := x.ln ++ [c] } k hb h4 (by simpa using hk) (fun h => hn (by simp [h])) (by simp; omega)]
    have hj := judge_ln x (x.ln ++ [c]) (x.ln ++ (c :: l).take (k + 1 + 1))
    have e1 : ({ x with ln := x.ln ++ [c] } : WSt).ln ++ l.take (k + 1) = x.ln ++ (c :: l).take (k + 1 + 1) := by simp
    rw [e1, hj]
    rfl
theorem feed_long : ∀ (r : Bs) (x : WSt), x.bo = none → x.nx ≠ 4 → x.ln.length ≤ 1023 → (10 : UInt8) ∉ r.take (1024 - x.ln.length) → 1024 ≤ x.ln.length + r.length → feedW x r = ([], badW, 2)
  | [], x, _, _, h1, _, h2 => by simp at h2; omega
  | c :: l, x, hb, h4, h1, hn, h2 => by
    have hc : c ≠ 10 := fun e => hn (by rw [show 1024 - x.ln.length = (1023 - x.ln.length) + 1 by omega]; simp [e])
    by_cases hl : x.ln.length + 1 = 1024
    · rw [feed_cons h4, one_line hb]
      unfold lineF
      rw [if_neg hc, if_pos hl]
      rfl
    · rw [feed_on1 hb h4 hc hl]
      refine feed_long l _ hb h4 (by simp; omega) (fun h => hn ?_) (by simp at h2 ⊢; omega)
      rw [show 1024 - x.ln.length = (1023 - x.ln.length) + 1 by omega, List.take_succ_cons]
      refine List.mem_cons_of_mem _ ?_
      simpa [show 1024 - (x.ln.length + 1) = 1023 - x.ln.length by omega] using h
theorem feed_open : ∀ (r : Bs) (x : WSt), x.bo = none → x.nx ≠ 4 → (10 : UInt8) ∉ r → x.ln.length + r.length ≤ 1023 → feedW x r = ([], { x with ln := x.ln ++ r }, 0)
  | [], x, _, _, _, _ => by simp [feedW]
  | c :: l, x, hb, h4, hn, h2 => by
    have hc : c ≠ 10 := fun e => hn (by simp [e])
    rw [feed_on1 hb h4 hc (by simp at h2; omega), feed_open l { x with ln := x.ln ++ [c] } hb h4 (fun h => hn (by simp [h])) (by simp at h2 ⊢; omega)]
    simp
/-- A wire stays what it may be. -/
theorem feed_ok : ∀ (r : Bs) (x : WSt), WOk x → x.nx ≤ 4 → (feedW x r).2.2 = 0 → WOk (feedW x r).2.1 ∧ (feedW x r).2.1.nx ≤ 4
  | [], x, h, h4, _ => ⟨h, h4⟩
  | c :: l, x, h, h4, he => by
    by_cases h4' : x.nx = 4
    · rw [feed_done h4']
      exact ⟨h, h4⟩
    · rw [feed_cons h4'] at he ⊢
      by_cases h1 : (oneF x c).1 ≠ 0
      · rw [if_pos h1] at he
        exact absurd he h1
      · rw [if_neg h1] at he ⊢
        have ho := one_ok h (by omega) c (Classical.not_not.1 h1)
        have hw := whole_ok ho
        refine feed_ok l _ hw ?_ he
        have hn5 := ho.nx5
        cases hb : (oneF x c).2.bo with
        | none =>
          rw [whole_none hb]
          dsimp only
          omega
        | some st =>
          by_cases h9 : st.nx = 9
          · rw [whole_done hb (ho.b3.2 (by rw [hb]; rfl)) h9]
            dsimp only
            split <;> omega
          · rw [whole_open hb h9]
            dsimp only
            omega
theorem feed_err : ∀ (r : Bs) (x : WSt), (feedW x r).2.2 ≠ 0 → (feedW x r).2.1 = badW
  | [], x, h => absurd rfl h
  | c :: l, x, h => by
    by_cases h4 : x.nx = 4
    · rw [feed_done h4] at h
      exact absurd rfl h
    · rw [feed_cons h4] at h ⊢
      by_cases h1 : (oneF x c).1 ≠ 0
      · rw [if_pos h1]
      · rw [if_neg h1] at h ⊢
        exact feed_err l _ h

end Go.Proofs.YtckkmdigmecagaaGreatDoor

/-
  Package wire: rows of requests.
-/
namespace Go.Proofs.YtckkmdigmecagaaGreatDoor
open Go.RowKit

theorem eq_ : ElemT Tryz.prog 29 42 (.agg reqZ) 5 88 := ElemT.of Tryz.underlying29 (by kernel_rfl) rfl (by omega)
/-- Where a request's fields and its body lie. -/
structure RMem where
  F : Option Addr
  nF : Nat
  cF : Nat
  D : Option Addr
  nD : Nat
  cD : Nat
abbrev RP := Rqp × RMem
def RP.arr (p : RP) : Array Value := reqA p.1.m p.1.t p.2.F p.2.nF p.2.cF p.2.D p.2.nD p.2.cD p.1.kp
def rqL : List RP → List Value
  | [] => []
  | p :: l => (RP.arr p).toList ++ rqL l
theorem rqL_len : ∀ l : List RP, (rqL l).length = 5 * l.length
  | [] => rfl
  | p :: l => by
    rw [rqL, List.length_append, rqL_len l, List.length_cons]
    have : (RP.arr p).toList.length = 5 := rfl
    omega
theorem rqL_snoc : ∀ (l : List RP) (p : RP), rqL (l ++ [p]) = rqL l ++ (RP.arr p).toList
  | [], p => by simp [rqL]
  | q :: l, p => by rw [List.cons_append, rqL, rqL, rqL_snoc l p, List.append_assoc]
theorem rqL_at : ∀ (l : List RP) (k : Nat) (p : RP), l[k]? = some p → ∀ j : Nat, j < 5 → (rqL l)[5 * k + j]? = (RP.arr p).toList[j]?
  | [], k, p, h, _, _ => by simp at h
  | q :: l, 0, p, h, j, hj => by
    obtain rfl : q = p := by simpa using h
    rw [rqL, List.getElem?_append_left (by have : (RP.arr q).toList.length = 5 := rfl; omega)]
    simp
  | q :: l, k + 1, p, h, j, hj => by
    have h1 : (RP.arr q).toList.length = 5 := rfl
    rw [rqL, List.getElem?_append_right (by omega), h1, show 5 * (k + 1) + j - 5 = 5 * k + j by omega]
    exact rqL_at l k p (by simpa using h) j hj
def RP.blocks (p : RP) : List Nat := (blk p.2.F).toList ++ (blk p.2.D).toList
/-- A row of requests, with their fields and their bodies, each in blocks of its own. -/
structure Reqs (w : World) (base : Nat) (A : Option Addr) (n c : Nat) (l : List RP) : Prop where
  row : Own w base 42 5 A n c (rqL l)
  each : ∀ p ∈ l, Own w base 44 2 p.2.F p.2.nF p.2.cF (Fl.fdL p.1.fs) ∧ Own w base 5 1 p.2.D p.2.nD p.2.cD (p.1.bd.map b8)
  nd : ((blk A).toList ++ l.flatMap RP.blocks).Nodup
def reqB (A : Option Addr) (l : List RP) : List Nat := (blk A).toList ++ l.flatMap RP.blocks
theorem blk_mem {A : Option Addr} {k : Nat} (h : blk A = some k) : k ∈ (blk A).toList := by simp [h]
section
variable {w w' : World} {base n c : Nat} {A : Option Addr} {l : List RP}
theorem Reqs.len (h : Reqs w base A n c l) : l.length = n := by
  have := h.row.rd.len
  rw [rqL_len] at this
  omega
theorem Reqs.nil_ (w : World) (base : Nat) : Reqs w base none 0 0 [] := ⟨Own.nil_ _ _ _ _, by simp, by simp [blk]⟩
theorem Reqs.in_ (h : Reqs w base A n c l) : ∀ k ∈ reqB A l, base ≤ k ∧ k < w.heap.size := by
  intro k hk
  rcases List.mem_append.1 hk with h1 | h1
  · exact h.row.lt k (by simpa using h1)
  · obtain ⟨p, hp, h2⟩ := List.mem_flatMap.1 h1
    obtain ⟨h3, h4⟩ := h.each p hp
    rcases List.mem_append.1 h2 with h5 | h5
    · exact h3.lt k (by simpa using h5)
    · exact h4.lt k (by simpa using h5)
theorem Reqs.keep (h : Reqs w base A n c l) (hk : ∀ k ∈ reqB A l, w'.heap[k]? = w.heap[k]?) : Reqs w' base A n c l := by
  refine ⟨h.row.keep fun k h1 _ _ => hk k (List.mem_append_left _ (blk_mem h1)), fun p hp => ?_, h.nd⟩
  obtain ⟨h3, h4⟩ := h.each p hp
  refine ⟨h3.keep fun k h1 _ _ => hk k (List.mem_append_right _ (List.mem_flatMap.2 ⟨p, hp, List.mem_append_left _ (blk_mem h1)⟩)), h4.keep fun k h1 _ _ => hk k (List.mem_append_right _ (List.mem_flatMap.2 ⟨p, hp, List.mem_append_right _ (blk_mem h1)⟩))⟩
theorem Reqs.but {S : Nat → Prop} (h : Reqs w base A n c l) (hb : But S w w') (hS : ∀ k ∈ reqB A l, ¬ S k) : Reqs w' base A n c l := h.keep fun k hk => hb.block k (h.in_ k hk).2 (hS k hk)
theorem Reqs.below (h : Reqs w base A n c l) (hb : Below w.heap.size w w') : Reqs w' base A n c l := h.keep fun k hk => hb.block k (h.in_ k hk).2
/-- One request more. -/
theorem Reqs.push (h : Reqs w base A n c l) {p : RP} (hf : Own w base 44 2 p.2.F p.2.nF p.2.cF (Fl.fdL p.1.fs)) (hd : Own w base 5 1 p.2.D p.2.nD p.2.cD (p.1.bd.map b8)) (hFD : ∀ k, blk p.2.F = some k → blk p.2.D ≠ some k) (hn : ∀ k ∈ reqB A l, k ∉ RP.blocks p)
    {A' : Option Addr} {n' c' : Nat} (hg : w.grownBy w' (blk A)) (ho : Own w' base 42 5 A' n' c' (rqL l ++ (RP.arr p).toList)) (hA : blk A' = blk A ∨ blk A' = some w.heap.size) (hp : ∀ k ∈ RP.blocks p, blk A ≠ some k) : Reqs w' base A' n' c' (l ++ [p]) := by
  have hAn : ∀ q, (∀ k, blk q = some k → k ∈ l.flatMap RP.blocks ∨ k ∈ RP.blocks p) → ∀ k, blk q = some k → blk A ≠ some k := by
    intro q hq k hk e
    rcases hq k hk with h1 | h1
    · have := h.nd
      rw [List.nodup_append] at this
      exact this.2.2 k (blk_mem e) k h1 rfl
    · exact hp k h1 e
  have hlt : ∀ k ∈ l.flatMap RP.blocks ++ RP.blocks p, k < w.heap.size := by
    intro k hk
    rcases List.mem_append.1 hk with h1 | h1
    · exact (h.in_ k (List.mem_append_right _ h1)).2
    · rcases List.mem_append.1 h1 with h5 | h5
      · exact (hf.lt k (by simpa using h5)).2
      · exact (hd.lt k (by simpa using h5)).2
  refine ⟨by rw [rqL_snoc]; exact ho, fun q hq => ?_, ?_⟩
  · rcases List.mem_append.1 hq with h1 | h1
    · obtain ⟨h3, h4⟩ := h.each q h1
      exact ⟨h3.grown hg fun k hk e => hAn q.2.F (fun k hk => .inl (List.mem_flatMap.2 ⟨q, h1, List.mem_append_left _ (blk_mem hk)⟩)) k hk e, h4.grown hg fun k hk e => hAn q.2.D (fun k hk => .inl (List.mem_flatMap.2 ⟨q, h1, List.mem_append_right _ (blk_mem hk)⟩)) k hk e⟩
    · obtain rfl := List.mem_singleton.1 h1
      exact ⟨hf.grown hg fun k hk e => hp k (List.mem_append_left _ (blk_mem hk)) e, hd.grown hg fun k hk e => hp k (List.mem_append_right _ (blk_mem hk)) e⟩
  · have h0 := h.nd
    rw [List.nodup_append] at h0
    obtain ⟨n1, n2, n3⟩ := h0
    have hpn : (RP.blocks p).Nodup := by
      unfold RP.blocks
      rw [List.nodup_append]
      refine ⟨by cases blk p.2.F <;> simp, by cases blk p.2.D <;> simp, fun a ha b hb e => ?_⟩
      subst e
      exact hFD a (by simpa using ha) (by simpa using hb)
    rw [List.flatMap_append, List.nodup_append]
    refine ⟨by cases blk A' <;> simp, ?_, fun a ha b hb e => ?_⟩
    · rw [List.nodup_append]
      refine ⟨n2, by simpa using hpn, fun a ha b hb e => ?_⟩
      subst e
      exact hn a (List.mem_append_right _ ha) (by simpa using hb)
    · subst e
      have ha' : blk A' = some a := by simpa using ha
      have hb' : a ∈ l.flatMap RP.blocks ++ RP.blocks p := by simpa using hb
      rcases hA with h1 | h1
      · rcases List.mem_append.1 hb' with h2 | h2
        · exact n3 a (blk_mem (h1.symm.trans ha')) a h2 rfl
        · exact hp a h2 (h1.symm.trans ha')
      · have h2 := Option.some.inj (h1.symm.trans ha')
        have := hlt a hb'
        omega
theorem reqB_push {A' : Option Addr} {p : RP} (hA : blk A' = blk A ∨ blk A' = some w.heap.size) : ∀ k ∈ reqB A' (l ++ [p]), k ∈ reqB A l ∨ k ∈ RP.blocks p ∨ k = w.heap.size := by
  intro k hk
  rcases List.mem_append.1 hk with h1 | h1
  · have h1' : blk A' = some k := by simpa using h1
    rcases hA with h2 | h2
    · exact .inl (List.mem_append_left _ (blk_mem (h2.symm.trans h1')))
    · exact .inr (.inr (Option.some.inj (h2.symm.trans h1')).symm)
  · rw [List.flatMap_append] at h1
    rcases List.mem_append.1 h1 with h2 | h2
    · exact .inl (List.mem_append_right _ h2)
    · exact .inr (.inl (by simpa using h2))
end
section
variable {ops : Array Oper} {rest : List Oper} {o : Oper} {a : Act} {Q : Exit → Act → World → Prop} {w : World}
theorem fill_rq1 (p : RP) : Instr.fill (fun i => some (i * 5, 5)) ((Array.range (1 * 5)).map ((Value.agg reqZ).cells[· % (Value.agg reqZ).cells.size]!)) [(0, .agg (RP.arr p))] = some (RP.arr p) := by kernel_rfl
theorem wpList_litR1 {x : Operand} {p : RP} (hgd : o.guard = none) (ho : o.op = .buildSlice 29 1 #[(0, x)]) (hx : a.eval x = .agg (RP.arr p))
    (k : ∀ w', w' = w.alloc (.cells (RP.arr p) 42) → wpList Tryz.prog ops Q rest (a.put o.dst (.slice (some ⟨w.heap.size, 0, none⟩) 1 1)) w') : wpList Tryz.prog ops Q (o :: rest) a w := by
  obtain ⟨ie, hie, hz, hs, _⟩ := eq_.info
  refine wpList_buildSlice hgd 29 42 1 _ ho (RP.arr p) ie (.agg reqZ) Tryz.underlying29 hie hz (by rw [hs]; decide) (by rw [hs]; decide) ?_ (k _ rfl)
  rw [hs]
  have e : ((#[(0, x)] : Array (Nat × Operand)).map fun (i, x) => (i, a.eval x)).toList = [(0, Value.agg (RP.arr p))] := by
    simp [hx]
  rw [e]
  exact fill_rq1 p
theorem litR1_rd {w w' : World} {p : RP} {t : TypeId} (h : w' = w.alloc (.cells (RP.arr p) t)) : Rd w' 5 (some ⟨w.heap.size, 0, none⟩) 1 1 (RP.arr p).toList := by
  rw [h]
  exact (Own.new (e := t) (size := 5) (base := w.heap.size) w (RP.arr p) (0, 0) 1 1 _ (Nat.le_refl _) (Nat.le_refl _) (by unfold maxLen; omega) rfl (Nat.le_refl 5) (fun j y hy => by
    match j, hy with
    | 0, hy => exact hy
    | 1, hy => exact hy
    | 2, hy => exact hy
    | 3, hy => exact hy
    | 4, hy => exact hy) (fun j _ h => by omega)).rd
end

end Go.Proofs.YtckkmdigmecagaaGreatDoor

/-
  Package wire: Feed.
-/
namespace Go.Proofs.YtckkmdigmecagaaGreatDoor
open Go.RowKit

theorem feedP_pos {s : St} {l : Bs} (h9 : s.nx ≠ 9) (h0 : s.bd = 0) (hl : l ≠ []) : 1 ≤ (feedP s l).1 := by
  cases l with
  | nil => exact absurd rfl hl
  | cons c l =>
    rw [feedP, if_neg (by omega)]
    exact Nat.le_add_left 1 _
section
variable {w w' : World} {base g : Nat} {x : WSt} {m : WMem}
/-- A body that was fed. -/
theorem WireB.fed (h : WireB w base g x m) {gb : Nat} (hpb : m.pb = some gb) {A : Option Addr} {n c : Nat} {st : St} (hb : Body w' base gb A n c st) (hbt : But (Mine gb m.A) w w') (hA : ∀ k, blk A = some k → blk m.A = some k ∨ w.heap.size ≤ k) : WireB w' base g { x with bo := some st } { m with A := A, n := n, c := c } := by
  have hkeep : ∀ k, m.has g k → k ≠ gb → blk m.A ≠ some k → w'.heap[k]? = w.heap[k]? := fun k hk h1 h2 => hbt.block k (h.in_ k hk).2 (fun hm => hm.elim h1 h2)
  have hno : ∀ k, m.has g k → blk m.A ≠ some k → blk A ≠ some k := fun k hk h1 e => by
    rcases hA k e with h2 | h2
    · exact h1 h2
    · have := (h.in_ k hk).2
      omega
  have hgb : g ≠ gb := fun e => h.nd.B (by rw [hpb, e])
  refine ⟨h.ge, (hkeep g (.inl rfl) hgb h.nd.A).trans h.obj, h.ln.keep fun k hk _ _ => hkeep k (.inr (.inl hk)) (fun e => h.nd.LB k hk (by rw [hpb, e])) (h.nd.LA k hk), h.fs.keep fun k hk _ _ => hkeep k (.inr (.inr (.inl hk))) (fun e => h.nd.FB k hk (by rw [hpb, e])) (h.nd.FA k hk), ⟨gb, hpb, hb⟩, ?_⟩
  exact ⟨h.nd.L, h.nd.F, h.nd.B, hno g (.inl rfl) h.nd.A, h.nd.LF, h.nd.LB, fun k hk => hno k (.inr (.inl hk)) (h.nd.LA k hk), h.nd.FB, fun k hk => hno k (.inr (.inr (.inl hk))) (h.nd.FA k hk)⟩
/-- No line any more. -/
theorem WireB.noLn (h : WireB w base g x m) : WireB (w.setCell ⟨g, 1, none⟩ (.slice none 0 0)) base g { x with ln := [] } { m with L := none, nL := 0, cL := 0 } := by
  refine ⟨h.ge, by rw [setc_same _ h.obj]; rfl, Own.nil_ _ _ _ _, h.fs.keep fun k hk _ _ => setc_other (fun e => h.nd.F (by rw [hk, e])), h.bo.keep fun k hk => setc_other (fun e => ?_), ⟨by simp [blk], h.nd.F, h.nd.B, h.nd.A, by simp [blk], by simp [blk], by simp [blk], h.nd.FB, h.nd.FA⟩⟩
  rcases hk with h1 | h1
  · exact h.nd.B (by rw [h1, e])
  · exact h.nd.A (by rw [h1, e])
end
/-- What comes of bytes that are fed. -/
def Fed (x : WSt) (bl : Bs) (w : World) (base g : Nat) (m : WMem) (e : Ending) (w' : World) : Prop :=
  ∃ A n c l m', e = .returned (.tuple #[.slice A n c, .int .i64 (feedW x bl).2.2]) ∧ WireB w' base g (feedW x bl).2.1 m' ∧ Reqs w' base A n c l ∧ l.map (·.1) = (feedW x bl).1 ∧ But (m.has g) w w' ∧ (∀ k, m'.has g k → m.has g k ∨ w.heap.size ≤ k) ∧ (∀ k ∈ reqB A l, ¬ m'.has g k ∧ (m.has g k ∨ w.heap.size ≤ k))
/-- What stands at a round. -/
structure FInv (x : WSt) (bl : Bs) (w : World) (base g : Nat) (m : WMem) (wr : World) (j : Nat) (y : WSt) (m1 : WMem) (A : Option Addr) (n c : Nat) (l : List RP) : Prop where
  W : WireB wr base g y m1
  ok : WOk y
  n4 : y.nx ≤ 4
  rq : Reqs wr base A n c l
  ap : ∀ k ∈ reqB A l, ¬ m1.has g k ∧ (m.has g k ∨ w.heap.size ≤ k)
  bt : But (m.has g) w wr
  has : ∀ k, m1.has g k → m.has g k ∨ w.heap.size ≤ k
  eq : feedW x bl = (l.map (·.1) ++ (feedW y (bl.drop j)).1, (feedW y (bl.drop j)).2)
  le : n ≤ j
/-- What stands behind the bytes of a round: an error, or a wire ahead of the look whether a request is whole. -/
structure FMid (y : WSt) (rest : Bs) (wr : World) (base g : Nat) (m1 : WMem) (E : Int) (N : Nat) (wx : World) (z : WSt) (m2 : WMem) : Prop where
  W : WireB wx base g z m2
  bt : But (m1.has g) wr wx
  has : ∀ k, m2.has g k → m1.has g k ∨ wr.heap.size ≤ k
  bad : E ≠ 0 → feedW y rest = ([], badW, E)
  good : E = 0 → 1 ≤ N ∧ N ≤ rest.length ∧ WOk' z ∧ feedW y rest = ((wholeF z).1.toList ++ (feedW (wholeF z).2 (rest.drop N)).1, (feedW (wholeF z).2 (rest.drop N)).2)
theorem fmid_line {y : WSt} {rest : Bs} {c : UInt8} {wr wx : World} {base g : Nat} {m1 : WMem} {z : WSt} (hk : WOk y) (h4 : y.nx ≤ 4) (h4' : y.nx ≠ 4) (hb : y.bo = none) (hc : rest[0]? = some c) (hs : WStep wr base g m1 wx z) (hz : (lineF y c).1 = 0 → z = (lineF y c).2) : ∃ m2, FMid y rest wr base g m1 (lineF y c).1 1 wx z m2 := by
  obtain ⟨m2, hW, hbt, hn⟩ := hs
  cases rest with
  | nil => cases hc
  | cons d l =>
    obtain rfl : d = c := by simpa using hc
    refine ⟨m2, hW, hbt, hn, fun he => ?_, fun he => ?_⟩
    · rw [feed_cons h4', one_line hb, if_pos he]
    · have ho := one_ok hk (by omega) d (by rw [one_line hb]; exact he)
      rw [one_line hb] at ho
      rw [hz he]
      refine ⟨Nat.le_refl _, by simp, ho, ?_⟩
      rw [feed_cons h4', one_line hb, if_neg (by simp [he])]
      simp
theorem fmid_body {y : WSt} {rest : Bs} {wr wx : World} {base g gb : Nat} {m1 : WMem} {st : St} (hk : WOk y) (h3 : y.nx = 3) (hb : y.bo = some st) (hr : rest ≠ []) (hW : WireB wr base g y m1) (hpb : m1.pb = some gb) {A : Option Addr} {n c : Nat} (hbd : Body wx base gb A n c (finP (feedP st rest).2)) (hbt : But (Mine gb m1.A) wr wx) (hA : ∀ k, blk A = some k → blk m1.A = some k ∨ wr.heap.size ≤ k) :
    FMid y rest wr base g m1 (errF (feedP st rest).2.bd) (feedN st rest).toNat wx { y with bo := some (finP (feedP st rest).2) } { m1 with A := A, n := n, c := c } := by
  obtain ⟨o1, o2, o3⟩ := hk.bo st hb
  have hfb := feed_body rest y st h3 hb o2 o3
  refine ⟨hW.fed hpb hbd hbt hA, ?_, ?_, fun he => ?_, fun he => ?_⟩
  · refine ⟨hbt.os, hbt.tape, hbt.output, hbt.size, fun k hk hn => hbt.block k hk (fun hm => hn ?_)⟩
    rcases hm with h1 | h1
    · exact .inr (.inr (.inr (.inl (by rw [hpb, h1]))))
    · exact .inr (.inr (.inr (.inr h1)))
  · intro k hk
    rcases hk with h1 | h1 | h1 | h1 | h1
    · exact .inl (.inl h1)
    · exact .inl (.inr (.inl h1))
    · exact .inl (.inr (.inr (.inl h1)))
    · exact .inl (.inr (.inr (.inr (.inl h1))))
    · rcases hA k h1 with h2 | h2
      · exact .inl (.inr (.inr (.inr (.inr h2))))
      · exact .inr h2
  · have hbz : (feedP st rest).2.bd ≠ 0 := fun h => he (by rw [h]; rfl)
    rw [hfb, if_pos hbz]
  · have hbz : (feedP st rest).2.bd = 0 := Classical.byContradiction fun h => errF_ne h he
    have hN : feedN st rest = ((feedP st rest).1 : Nat) := if_pos hbz
    have hf : finP (feedP st rest).2 = (feedP st rest).2 := if_pos hbz
    rw [hN, hf, Int.toNat_natCast]
    refine ⟨feedP_pos o3 o2 hr, feedP_le rest st, ⟨hk.nx1, by dsimp only; omega, hk.ln, hk.fs, hk.fz, by simp [h3], fun st' hs => ?_, hk.l3⟩, ?_⟩
    · obtain rfl := Option.some.inj hs
      exact ⟨feedP_ok rest st o1, hbz⟩
    · rw [hfb, if_neg (by simp [hbz])]
theorem finv_end {x : WSt} {bl : Bs} {w : World} {base g : Nat} {m : WMem} {wr : World} {j : Nat} {y : WSt} {m1 : WMem} {A : Option Addr} {n c : Nat} {l : List RP} (h : FInv x bl w base g m wr j y m1 A n c l) (he : y.nx = 4 ∨ bl.drop j = []) : Fed x bl w base g m (.returned (.tuple #[.slice A n c, .int .i64 0])) wr := by
  have hf : feedW y (bl.drop j) = ([], y, 0) := by
    rcases he with h1 | h1
    · exact feed_done h1 _
    · rw [h1]
      rfl
  have he := h.eq
  rw [hf] at he
  refine ⟨A, n, c, l, m1, by rw [he], by rw [he]; exact h.W, h.rq, by rw [he]; simp, h.bt, h.has, h.ap⟩
/-- An error: the wire's stores behind it. -/
theorem finv_bad {x : WSt} {bl : Bs} {w : World} {base g : Nat} {m : WMem} {wr wx wz : World} {j : Nat} {y z : WSt} {m1 m2 m3 : WMem} {A : Option Addr} {n c N : Nat} {l : List RP} {E : Int} (h : FInv x bl w base g m wr j y m1 A n c l) (hm : FMid y (bl.drop j) wr base g m1 E N wx z m2) (hE : E ≠ 0) (hz : WireB wz base g badW m3) (hb : But (· = g) wx wz) (h3 : ∀ k, m3.has g k → m2.has g k) :
    Fed x bl w base g m (.returned (.tuple #[.slice A n c, .int .i64 E])) wz := by
  have he := h.eq
  rw [hm.bad hE] at he
  have hap : ∀ k ∈ reqB A l, ¬ m2.has g k := fun k hk hk2 => by
    rcases hm.has k hk2 with h1 | h1
    · exact (h.ap k hk).1 h1
    · have := (h.rq.in_ k hk).2
      omega
  have hb2 : But (m1.has g) wr wz := hm.bt.trans hb (fun i hi => .inl (.inl hi))
  refine ⟨A, n, c, l, m3, by rw [he], by rw [he]; exact hz, h.rq.but hb2 (fun k hk => (h.ap k hk).1), by rw [he]; simp, h.bt.trans hb2 (fun i hi => h.has i hi), fun k hk => ?_, fun k hk => ⟨fun hk3 => hap k hk (h3 k hk3), (h.ap k hk).2⟩⟩
  rcases hm.has k (h3 k hk) with h1 | h1
  · exact h.has k h1
  · exact .inr (Nat.le_trans h.bt.size h1)
/-- No request is whole. -/
theorem finv_none {x : WSt} {bl : Bs} {w : World} {base g : Nat} {m : WMem} {wr wx wz : World} {j : Nat} {y z : WSt} {m1 m2 : WMem} {A : Option Addr} {n c N : Nat} {l : List RP} (h : FInv x bl w base g m wr j y m1 A n c l) (hm : FMid y (bl.drop j) wr base g m1 0 N wx z m2) (hw : (wholeF z).1 = none) (hz : (wholeF z).2 = z) (hb : Below wx.heap.size wx wz) :
    FInv x bl w base g m wz (j + N) z m2 A n c l := by
  obtain ⟨g1, g2, g3, g4⟩ := hm.good rfl
  have hb2 : But (m1.has g) wr wz := hm.bt.trans (But.of_below hb : But (fun _ => False) wx wz) (fun i hi => hi.elim)
  have hok := whole_ok g3
  rw [hz] at hok
  refine ⟨hm.W.below hb, hok, by have := g3.nx5; omega, h.rq.but hb2 (fun k hk => (h.ap k hk).1), fun k hk => ⟨fun hk2 => ?_, (h.ap k hk).2⟩, h.bt.trans hb2 (fun i hi => h.has i hi), fun k hk => ?_, ?_, by have := h.le; omega⟩
  · rcases hm.has k hk2 with h1 | h1
    · exact (h.ap k hk).1 h1
    · have := (h.rq.in_ k hk).2
      omega
  · rcases hm.has k hk with h1 | h1
    · exact h.has k h1
    · exact .inr (Nat.le_trans h.bt.size h1)
  · rw [h.eq, g4, hw, hz, List.drop_drop]
    simp
theorem whole_n4 {x : WSt} (h : WOk' x) : (wholeF x).2.nx ≤ 4 := by
  have := h.nx5
  cases hb : x.bo with
  | none =>
    rw [whole_none hb]
    dsimp only
    omega
  | some st =>
    by_cases h9 : st.nx = 9
    · rw [whole_done hb (h.b3.2 (by rw [hb]; rfl)) h9]
      dsimp only
      split <;> omega
    · rw [whole_open hb h9]
      dsimp only
      omega
/-- A request is whole. -/
theorem finv_some {x : WSt} {bl : Bs} {w : World} {base g : Nat} {m : WMem} {wr wx w2 w3 w4 : World} {j : Nat} {y z : WSt} {m1 m2 m3 : WMem} {A : Option Addr} {n c N : Nat} {l : List RP} (h : FInv x bl w base g m wr j y m1 A n c l) (hm : FMid y (bl.drop j) wr base g m1 0 N wx z m2) {q : Rqp} {D : Option Addr} {nD cD : Nat} (hw : (wholeF z).1 = some q)
    (hW2 : WireB w2 base g (wholeF z).2 m3) (hD : Own w2 wx.heap.size 5 1 D nD cD (q.bd.map b8)) (hF : Own w2 base 44 2 m2.F m2.nF m2.cF (Fl.fdL q.fs)) (hb2 : But (· = g) wx w2) (h3 : ∀ k, m3.has g k → m2.has g k ∧ blk m2.F ≠ some k)
    (hb3 : Below w2.heap.size w2 w3) {A' : Option Addr} {n' c' : Nat} (hg : w3.grownBy w4 (blk A)) (ho : Own w4 base 42 5 A' n' c' (rqL l ++ (RP.arr (q, ⟨m2.F, m2.nF, m2.cF, D, nD, cD⟩)).toList)) (hA : blk A' = blk A ∨ blk A' = some w3.heap.size) (hn' : n' = n + 1) :
    FInv x bl w base g m w4 (j + N) (wholeF z).2 m3 A' n' c' (l ++ [(q, ⟨m2.F, m2.nF, m2.cF, D, nD, cD⟩)]) := by
  obtain ⟨g1, g2, g3, g4⟩ := hm.good rfl
  have hbase : base ≤ wx.heap.size := Nat.le_trans hm.W.ge (Nat.le_of_lt hm.W.lt)
  have hr2 : But (m1.has g) wr w2 := hm.bt.trans hb2 (fun i hi => .inl (.inl hi))
  have hr3 : But (m1.has g) wr w3 := hr2.trans (But.of_below hb3 : But (fun _ => False) w2 w3) (fun i hi => hi.elim)
  have hap2 : ∀ k ∈ reqB A l, ¬ m2.has g k ∧ k < wr.heap.size := fun k hk => ⟨fun hk2 => by
    rcases hm.has k hk2 with h1 | h1
    · exact (h.ap k hk).1 h1
    · have := (h.rq.in_ k hk).2
      omega, (h.rq.in_ k hk).2⟩
  have hrx := hm.bt.size
  have hx2 := hb2.size
  have h23 := hb3.size
  have hrq := h.rq.but hr3 (fun k hk => (h.ap k hk).1)
  have hDlt := hD.lt
  have hFl : ∀ k, blk m2.F = some k → k < wx.heap.size := fun k hk => (hm.W.fs.lt k hk).2
  have hblk : ∀ k ∈ RP.blocks (q, ⟨m2.F, m2.nF, m2.cF, D, nD, cD⟩), blk m2.F = some k ∨ blk D = some k := fun k hk => by
    rcases List.mem_append.1 hk with h1 | h1
    · exact .inl (by simpa using h1)
    · exact .inr (by simpa using h1)
  have hpush := hrq.push (p := (q, ⟨m2.F, m2.nF, m2.cF, D, nD, cD⟩)) (hF.below hb3) ((hD.mono hbase).below hb3) (fun k hk e => by have h1 := hFl k hk; have h2 := (hDlt k e).1; omega) (fun k hk hk2 => by
    obtain ⟨a1, a2⟩ := hap2 k hk
    rcases hblk k hk2 with h1 | h1
    · exact a1 (.inr (.inr (.inl h1)))
    · have := (hDlt k h1).1
      omega) hg ho hA (fun k hk e => by
    obtain ⟨a1, a2⟩ := hap2 k (List.mem_append_left _ (blk_mem e))
    rcases hblk k hk with h1 | h1
    · exact a1 (.inr (.inr (.inl h1)))
    · have := (hDlt k h1).1
      omega)
  have hm3 : ∀ k, m3.has g k → blk A ≠ some k := fun k hk e => (hap2 k (List.mem_append_left _ (blk_mem e))).1 (h3 k hk).1
  have h4b : But (fun k => blk A = some k) w3 w4 := But.of_grown hg (S := fun k => blk A = some k) (fun q e => e)
  have hok := whole_ok g3
  have hm3lt : ∀ k, m3.has g k → k < w2.heap.size := fun k hk => (hW2.in_ k hk).2
  have hapA : ∀ k, blk A = some k → m.has g k ∨ w.heap.size ≤ k := fun k e => (h.ap k (List.mem_append_left _ (blk_mem e))).2
  have h2has : ∀ k, m2.has g k → m.has g k ∨ w.heap.size ≤ k := fun k hk => by
    rcases hm.has k hk with h1 | h1
    · exact h.has k h1
    · exact .inr (Nat.le_trans h.bt.size h1)
  have hwr := h.bt.size
  refine ⟨(hW2.below hb3).keep fun k hk => hg.block k (Nat.lt_of_lt_of_le (hm3lt k hk) h23) (fun e => hm3 k hk e.symm), hok, whole_n4 g3, hpush, fun k hk => ?_, (h.bt.trans hr3 (fun i hi => h.has i hi)).trans h4b hapA, fun k hk => h2has k (h3 k hk).1, ?_, by have := h.le; omega⟩
  · rcases reqB_push hA k hk with h1 | h1 | h1
    · exact ⟨fun hk3 => (hap2 k h1).1 (h3 k hk3).1, (h.ap k h1).2⟩
    · rcases hblk k h1 with h2 | h2
      · exact ⟨fun hk3 => (h3 k hk3).2 h2, h2has k (.inr (.inr (.inl h2)))⟩
      · have h5 := (hDlt k h2).1
        exact ⟨fun hk3 => by have := (hm.W.in_ k (h3 k hk3).1).2; omega, .inr (by omega)⟩
    · subst h1
      exact ⟨fun hk3 => by have := hm3lt _ hk3; omega, .inr (by omega)⟩
  · rw [h.eq, g4, hw, List.drop_drop]
    simp
end Go.Proofs.YtckkmdigmecagaaGreatDoor

/-
  Package wire: Feed, the walk.
-/
namespace Go.Proofs.YtckkmdigmecagaaGreatDoor
open Go.RowKit

theorem whole_same {z : WSt} (h : (wholeF z).1 = none) : (wholeF z).2 = z := by
  cases hb : z.bo with
  | none => rw [whole_none hb]
  | some st =>
    by_cases h9 : z.nx = 3 ∧ st.nx = 9
    · rw [whole_done hb h9.1 h9.2] at h
      cases h
    · unfold wholeF
      rw [hb]
      dsimp only
      rw [if_neg h9]
set_option maxRecDepth 20000 in
set_option maxHeartbeats 8000000 in
theorem WFeed_any {w : World} {base g : Nat} {x : WSt} {m : WMem} (h : WireB w base g x m) (hk : WOk x) (hx4 : x.nx ≤ 4) (hm : Mx w) (h0 : mxb < base) {B : Option Addr} {nB cB : Nat} {bl : Bs} (hb : Rd w 1 B nB cB (bl.map b8)) (hn : nB ≤ 1048576) (hB : ∀ k, blk B = some k → k < w.heap.size ∧ ¬ m.has g k) :
    Calls Tryz.prog 10 #[.pointer (some ⟨g, 0, none⟩), .slice B nB cB] w (Fed x bl w base g m) := by
  have hnx1 := hk.nx1
  have hbl : bl.length = nB := hb.lenb
  have e0 : ((x.nx : Int) == 0) = false := by
    rw [beq_eq_false_iff_ne]
    omega
  have e5 : ((x.nx : Int) == 5) = false := by
    rw [beq_eq_false_iff_ne]
    omega
  have hst : FInv x bl w base g m w 0 x m none 0 0 [] := ⟨h, hk, hx4, Reqs.nil_ _ _, by simp [reqB, blk], But.refl _ _, fun k h => .inl h, by simp, Nat.le_refl _⟩
  have HST := Lib.hid hst
  have HHB := Lib.hid hB
  have HIN := Lib.hid h.in_
  have HRD := Lib.hid (show Rd w 1 B (nB - 0) cB ((bl.drop 0).map b8) ∧ (∀ k, blk B = some k → blk B = some k) from ⟨by simpa using hb, fun k h => h⟩)
  obtain ⟨c0, -⟩ := h.cells
  clear hst hB h hk hb hnx1 hx4
  go_enter Tryz.func10, Tryz.ntmps10
  go_wp2_with fail
  clear c0 e0 e5
  go_loopw [1, 6] (fun s o wr => ∃ (j : Nat) (y : WSt) (m1 : WMem) (A1 : Option Addr) (c1 : Nat) (A : Option Addr) (n c : Nat) (l : List RP), j ≤ nB ∧ s = .slice A1 (nB - j) c1 ∧ o = .slice A n c ∧ Hid (Rd w 1 A1 (nB - j) c1 ((bl.drop j).map b8) ∧ (∀ k, blk A1 = some k → blk B = some k)) ∧ Hid (FInv x bl w base g m wr j y m1 A n c l)) (fun s _ _ => match s with | .slice _ q _ => q | _ => 0)
  case atStart => exact ⟨0, x, m, B, cB, none, 0, 0, [], by omega, rfl, rfl, HRD.out, HST.out⟩
  case round =>
    obtain ⟨j, y, m1, A1, c1, A, n, c, l, hj, rfl, rfl, hR, hI⟩ := hrel
    clear HRD HST
    obtain ⟨q, hq⟩ : ∃ q, nB - j = q := ⟨_, rfl⟩
    rw [hq] at hR ⊢
    have hqn : q ≤ nB := by omega
    have hdl : (bl.drop j).length = q := by rw [List.length_drop, hbl, hq]
    have HQ := Lib.hid (show nB - j = q ∧ (bl.drop j).length = q ∧ n ≤ j ∧ j ≤ nB from ⟨hq, hdl, hI.out.le, hj⟩)
    have hnj : n ≤ 1048576 := by have := hI.out.le; omega
    obtain ⟨c0, -⟩ := hI.out.W.cells
    clear hq hdl hj
    by_cases hq0 : q = 0
    · subst hq0
      have HE := Lib.hid (finv_end hI.out (.inr (List.eq_nil_of_length_eq_zero HQ.out.2.1)))
      clear c0 hR
      go_wp2_with fail
      go_ret2
      exact HE.out
    · have hq1 : (0 : Int) < q := by omega
      by_cases h4 : y.nx = 4
      · have HE := Lib.hid (finv_end hI.out (.inl h4))
        rw [h4] at c0
        clear h4 hR hq0
        go_wp2_with fail
        go_ret2
        exact HE.out
      · have e4 : ((y.nx : Int) != 4) = true := by
          rw [bne_iff_ne]
          omega
        have HNE := Lib.hid (show y.nx ≠ 4 ∧ y.nx ≤ 4 ∧ bl.drop j ≠ [] from ⟨h4, hI.out.n4, fun e => by have := HQ.out.2.1; rw [e] at this; simp at this; omega⟩)
        have hRw : Hid (∀ W, But (m.has g) w W → Rd W 1 A1 q c1 ((bl.drop j).map b8)) := fun W hW => hR.out.1.but hW (fun k hk hm => (HHB.out k (hR.out.2 k hk)).2 hm)
        obtain ⟨t3, ht3⟩ : ∃ t, ((y.nx : Int) == 3) = t := ⟨_, rfl⟩
        have HT3 := Lib.hid ht3
        clear h4 hq0
        go_upto_if 41 with fail
        go_cut [7, 8] from 27 to 87 (fun ev nv wx => ∃ (E : Int) (N : Nat) (z : WSt) (m2 : WMem), ev = .int .i64 E ∧ nv = .int .i64 (N : Int) ∧ Hid (FMid y (bl.drop j) wr base g m1 E N wx z m2))
        case first =>
          cases hbo : y.bo with
          | none =>
            have hx3 : t3 = false := by
              rw [← HT3.out, beq_eq_false_iff_ne]
              intro e
              have := hI.out.ok.b3.1 (by omega)
              rw [hbo] at this
              cases this
            subst hx3
            obtain ⟨ch, hch, hidx, hcell, hxb⟩ := (hRw.out wr hI.out.bt).byteAt eb 0 0 rfl (by omega)
            have HT := Lib.hid (wtake_any hI.out.W hI.out.ok hbo (mx_but hm hI.out.bt (fun q hq => Nat.le_trans h0 (HIN.out q hq).1)) h0 ch)
            have HF := Lib.hid (fun wx z => fmid_line (base := base) (g := g) (wr := wr) (m1 := m1) (rest := bl.drop j) (c := ch) (wx := wx) (z := z) hI.out.ok HNE.out.2.1 HNE.out.1 hbo hch.out)
            unfold b8 at HT
            clear hbo hch
            go_wp2_with fail
            refine HT.out.mono ?_
            rintro e w2 ⟨rfl, z, hs, hz⟩
            obtain ⟨m2, hM⟩ := HF.out w2 z hs hz
            have HM := Lib.hid hM
            clear hM hs hz c0 hcell hidx
            go_wp2_with fail
            go_meet
            exact ⟨_, 1, z, m2, rfl, rfl, HM.out⟩
          | some st =>
            have hx3 : y.nx = 3 := hI.out.ok.b3.2 (by rw [hbo]; rfl)
            have ht3' : t3 = true := by
              rw [← HT3.out, hx3]
              rfl
            subst ht3'
            have hbp := hI.out.W.bo
            rw [hbo] at hbp
            obtain ⟨gb, hpb, hbd⟩ := hbp
            have c7 := hI.out.W.cells.2.2.2.2.2.2.2
            rw [hpb] at c7
            unfold ptrV at c7
            have HC := Lib.hid (Feed_any hbd (hI.out.ok.bo st hbo).1 A1 q c1 (bl.drop j) (hRw.out wr hI.out.bt) (by omega) (fun k hk hm => by
              have h1 := HHB.out k (hR.out.2 k hk)
              have h2 : m1.has g k := by
                rcases hm with h2 | h2
                · exact .inr (.inr (.inr (.inl (by rw [hpb, h2]))))
                · exact .inr (.inr (.inr (.inr h2)))
              rcases hI.out.has k h2 with h3 | h3
              · exact h1.2 h3
              · omega))
            have HF := Lib.hid (fun wx A n c => fmid_body (wx := wx) (A := A) (n := n) (c := c) hI.out.ok hx3 hbo HNE.out.2.2 hI.out.W hpb)
            obtain ⟨K, hK⟩ : ∃ K : Nat, feedN st (bl.drop j) = (K : Int) := by
              unfold feedN
              split
              · exact ⟨_, rfl⟩
              · exact ⟨0, rfl⟩
            rw [hK, Int.toNat_natCast] at HF
            rw [hK] at HC
            obtain ⟨E, hE⟩ : ∃ E, (feedP st (bl.drop j)).2.bd = E := ⟨_, rfl⟩
            rw [hE] at HC HF
            clear hx3 hbo hbd hpb hE hK
            go_wp2_with fail
            refine HC.out.mono ?_
            rintro e w2 ⟨A', n', c', rfl, hbd, hbt, hA⟩
            have HM := Lib.hid (HF.out w2 A' n' c' hbd hbt hA)
            clear hbd hbt hA c0 c7 HF
            by_cases hE2 : E = 2
            · subst hE2
              go_wp2_with fail
              go_meet
              exact ⟨_, _, _, _, rfl, rfl, HM.out⟩
            · have e2 : (E == 2) = false := by simpa using hE2
              have HE : Hid (errF E = E) := if_neg hE2
              rw [HE.out] at HM
              clear hE2
              go_wp2_with fail
              go_meet
              exact ⟨_, _, _, _, rfl, rfl, HM.out⟩
        case rest =>
          obtain ⟨E, N, z, m2, rfl, rfl, hM⟩ := hcut
          clear c0 e4
          by_cases hE : E = 0
          · subst hE
            have HG := hM.out.good rfl
            have hNq : 1 ≤ N ∧ N ≤ q := ⟨HG.1, by have := HG.2.1; have := HQ.out.2.1; omega⟩
            have hsl := run_slice_l_rd (P := Tryz.prog) (A := A1) (n := q) (c := c1) eb (kl := .i64) N (L := (N : Int)) (by omega) (by omega)
            obtain ⟨q2, hq2⟩ : ∃ q2, q - N = q2 := ⟨_, rfl⟩
            rw [hq2] at hsl
            have HQ2 := Lib.hid hq2
            have HNQ := Lib.hid hNq
            have HW := Lib.hid (whole_any hM.out.W HG.2.2.1)
            clear HG hNq hq2
            go_wp2_with fail
            refine HW.out.mono ?_
            unfold Wholed
            rintro e w2 (⟨hw1, rfl, hb2⟩ | ⟨rq, D, nD, cD, m3, hw1, rfl, hW2, hD, hF, hb2, h3⟩)
            · have HW1 := Lib.hid hw1
              clear hw1
              go_wp2_with (first
                | (refine wpList_alloc_zero rfl _ rfl reqZ zero_req ?_; intro w3 hg3 hb3 hz3; clear hz3)
                | (refine wpList_store_all rfl _ _ _ rfl w2.heap.size rfl _ reqZ reqZ rfl hg3 size_req rfl req_one ?_; intro w4 hg4 hgr4 hz4; clear hz4))
              have hb4 := hb2.trans ((hb3.grown hgr4 hb3.size (fun q hq => by obtain rfl := Option.some.inj hq; exact Nat.le_refl _)).mono hb2.size)
              have HI2 := Lib.hid (finv_none hI.out hM.out HW1.out (whole_same HW1.out) hb4)
              clear hb4 hg4 hgr4 hg3 hb3 hb2
              go_roundw
              case rel =>
                refine ⟨j + N, z, m2, cutA A1 c1 N 1, c1 - N, A, n, c, l, ?_, ?_, rfl, ?_, HI2.out⟩
                · have := HQ.out
                  have := HNQ.out
                  omega
                · rw [show nB - (j + N) = q2 by have := HQ.out.1; have := HQ2.out; omega]
                · have h1 := hR.out.1.drop_ (k := N) HNQ.out.2
                  rw [List.drop_drop, show q - N = nB - (j + N) by have := HQ.out.1; omega] at h1
                  exact ⟨h1, fun k hk => hR.out.2 k (by rw [← hk, blk_cutA])⟩
              case measure =>
                have := HQ2.out
                have := HNQ.out
                simp
                omega
            · have HW1 := Lib.hid hw1
              have HRQ := Lib.hid (hI.out.rq.but (hM.out.bt.trans hb2 (fun i hi => .inl (.inl hi))) (fun k hk => (hI.out.ap k hk).1))
              have HFS := Lib.hid (fun w3 w4 (hb3 : Below w2.heap.size w2 w3) (A' : Option Addr) (n' c' : Nat) hg ho hA hn' => finv_some (w3 := w3) (w4 := w4) (A' := A') (n' := n') (c' := c') hI.out hM.out HW1.out hW2 hD hF hb2 h3 hb3 hg ho hA hn')
              have hge : base ≤ w2.heap.size := Nat.le_trans hW2.ge (Nat.le_of_lt hW2.lt)
              clear hw1 hW2 hD hF hb2 h3
              go_wp2_with (first
                | (refine wpList_alloc_zero rfl _ rfl reqZ zero_req ?_; intro w3 hg3 hb3 hz3; clear hz3)
                | (refine wpList_store_all rfl _ _ _ rfl w2.heap.size rfl _ _ _ rfl hg3 size_req rfl req_one ?_; intro w4 hg4 hgr4 hz4; clear hz4; have hb4 := hb3.grown hgr4 hb3.size (fun q hq => by obtain rfl := Option.some.inj hq; exact Nat.le_refl _); clear hgr4; clear hg3; clear hb3)
                | (refine wpList_load_run rfl _ _ rfl _ rfl _ (load_reqs hg4) ?_)
                | (refine wpList_litR1 (p := (rq, ⟨m2.F, m2.nF, m2.cF, D, nD, cD⟩)) rfl rfl rfl ?_; intro w5 hw5; have hl5 := litR1_rd hw5; have hb5 := hb4.trans ((litF1_below hw5).mono hb4.size); clear hw5)
                | (at_builtin; refine wpList_app rfl _ _ rfl eq_ (HRQ.out.row.below hb5) rfl hl5 rfl req_one (by omega) (by unfold maxLen; omega) (Nat.le_trans hge hb5.size) ?_; intro A6 c6 w6 ho6 hg6 hq6; have HI2 := Lib.hid (HFS.out w5 w6 hb5 A6 (n + 1) c6 hg6 ho6 hq6 rfl); clear ho6; clear hg6; clear hq6))
              go_roundw
              case rel =>
                refine ⟨j + N, _, m3, cutA A1 c1 N 1, c1 - N, A6, n + 1, c6, _, ?_, ?_, rfl, ?_, HI2.out⟩
                · have := HQ.out
                  have := HNQ.out
                  omega
                · rw [show nB - (j + N) = q2 by have := HQ.out.1; have := HQ2.out; omega]
                · have h1 := hR.out.1.drop_ (k := N) HNQ.out.2
                  rw [List.drop_drop, show q - N = nB - (j + N) by have := HQ.out.1; omega] at h1
                  exact ⟨h1, fun k hk => hR.out.2 k (by rw [← hk, blk_cutA])⟩
              case measure =>
                have := HQ2.out
                have := HNQ.out
                simp
                omega
          · have e1 : (E != 0) = true := by simpa using hE
            have hW0 := hM.out.W
            have c0 := hW0.cells.1
            have f0 := hW0.free 0
            have hW1 : WireB (wc.setCell ⟨g, 0, none⟩ (.int .i64 5)) base g _ _ := hW0.setNx 5
            have c1' := hW1.cells.2.1
            have f1 := hW1.free 1
            have hW2 := hW1.noLn
            have hb2 : But (· = g) wc ((wc.setCell ⟨g, 0, none⟩ (.int .i64 5)).setCell ⟨g, 1, none⟩ (.slice none 0 0)) := ((But.refl (· = g) wc).set _ (.inl (show g = g from rfl))).set _ (.inl (show g = g from rfl))
            have HFB := Lib.hid (fun wz m3 => finv_bad (wz := wz) (m3 := m3) hI.out hM.out hE)
            clear hE
            go_wp2_with (first
              | (refine wpList_build_run rfl _ _ rfl #[] (by rfl) _ (build_req0 _) ?_)
              | (refine wpList_store_req rfl _ _ rfl rfl (show Value.agg reqZ = _ from rfl) hW2 ?_; intro w3 hW3 hg3 hz3; clear hz3; clear c0; clear c1'; have k37 := hW3.cells.2.2.2.2.2.2.2; have f37 := hW3.free 7; dsimp only at k37; have HW4 := Lib.hid hW3.noBody; have hb3 := hb2.trans (But.of_grown hg3 (S := (· = g)) (fun q e => (Option.some.inj e).symm)) (fun _ h => .inl h)))
            go_ret2
            refine HFB.out _ _ HW4.out (hb3.set _ (.inl rfl)) (fun k hk => ?_)
            rcases hk with h1 | h1 | h1 | h1 | h1
            · exact .inl h1
            · simp [blk] at h1
            · simp [blk] at h1
            · cases h1
            · simp [blk] at h1

end Go.Proofs.YtckkmdigmecagaaGreatDoor

/-
  Package wire: Feed of a wire that is none, or done for; Over.
-/
namespace Go.Proofs.YtckkmdigmecagaaGreatDoor
open Go.RowKit

theorem WFeed_nil (B : Value) (w : World) : Calls Tryz.prog 10 #[.pointer none, B] w fun e w' => e = .returned (.tuple #[.slice none 0 0, .int .i64 1]) ∧ w = w' := by
  go_enter Tryz.func10, Tryz.ntmps10
  go_wp2_with fail
  go_ret2
  exact ⟨rfl, rfl⟩
theorem WFeed_zero {w : World} {g : Nat} (h : w.cell? ⟨g, 0, none⟩ = some (.int .i64 0)) (B : Value) : Calls Tryz.prog 10 #[.pointer (some ⟨g, 0, none⟩), B] w fun e w' => e = .returned (.tuple #[.slice none 0 0, .int .i64 1]) ∧ w = w' := by
  go_enter Tryz.func10, Tryz.ntmps10
  go_wp2_with fail
  go_ret2
  exact ⟨rfl, rfl⟩
theorem WFeed_wrong {w : World} {g : Nat} (h : w.cell? ⟨g, 0, none⟩ = some (.int .i64 5)) (B : Value) : Calls Tryz.prog 10 #[.pointer (some ⟨g, 0, none⟩), B] w fun e w' => e = .returned (.tuple #[.slice none 0 0, .int .i64 8]) ∧ w = w' := by
  go_enter Tryz.func10, Tryz.ntmps10
  go_wp2_with fail
  go_ret2
  exact ⟨rfl, rfl⟩
theorem Over_nil (w : World) : Calls Tryz.prog 13 #[.pointer none] w fun e w' => e = .returned (.bool true) ∧ w = w' := by
  go_enter Tryz.func13, Tryz.ntmps13
  go_wp2_with fail
  go_ret
  exact ⟨rfl, rfl⟩
def overB (n : Nat) : Bool := n == 0 || n == 4 || n == 5
theorem Over_any {w : World} {g n : Nat} (h : w.cell? ⟨g, 0, none⟩ = some (.int .i64 (n : Int))) : Calls Tryz.prog 13 #[.pointer (some ⟨g, 0, none⟩)] w fun e w' => e = .returned (.bool (overB n)) ∧ w = w' := by
  by_cases h0 : n = 0
  · subst h0
    go_enter Tryz.func13, Tryz.ntmps13
    go_wp2_with fail
    go_ret
    exact ⟨rfl, rfl⟩
  · by_cases h4 : n = 4
    · subst h4
      go_enter Tryz.func13, Tryz.ntmps13
      go_wp2_with fail
      go_ret
      exact ⟨rfl, rfl⟩
    · by_cases h5 : n = 5
      · subst h5
        go_enter Tryz.func13, Tryz.ntmps13
        go_wp2_with fail
        go_ret
        exact ⟨rfl, rfl⟩
      · have e0 : ((n : Int) == 0) = false := by rw [beq_eq_false_iff_ne]; omega
        have e4 : ((n : Int) == 4) = false := by rw [beq_eq_false_iff_ne]; omega
        have e5 : ((n : Int) == 5) = false := by rw [beq_eq_false_iff_ne]; omega
        have ho : Hid (overB n = false) := by
          show _ = _
          simp [overB, h0, h4, h5]
        clear h0 h4 h5
        go_enter Tryz.func13, Tryz.ntmps13
        go_wp2_with fail
        go_ret
        exact ⟨by rw [ho.out]; rfl, rfl⟩

end Go.Proofs.YtckkmdigmecagaaGreatDoor

/-
  The plain wrap with both: the laid fact of the row, and the world's shape.
-/
namespace Go.Proofs.YtckkmdigmecagaaGreatDoor
open Go

theorem returns_of_both {H : Type} {enc : TypeId × Value → H} {a : Assume} {C : Checked} {os : Os} {f : FuncId} {fn : Func} {s : ChangeSpec} {conds : List PathCond} {apart fresh handsOn again : Bool} {X : World → Array Value → Prop}
    (hX : ∀ (w w' : World) (args : Array Value), w.heap = w'.heap → X w args → X w' args)
    (own : ownKnob C.prog.godebug = none) (started : os.Started) (noInit : C.prog.inits.idxOf? f = none) (hfn : C.prog.funcs[f]? = some fn)
    (witness : ∃ (w : World) (tape : Tape) (i : Input), w.os = os ∧ (w.forCall tape i).Shaped C.prog ∧ i.vars = [] ∧ Input.okWide C.prog (w.forCall tape i) .any w.heap.size f i ∧
      ((s.pre enc C.prog fn conds apart (w.forCall tape i).memory i.args ∧ X (w.forCall tape i).memory i.args) ∧ sizedMet enc C.prog fn (OpenSpec.ofChange s) apart (w.forCall tape i).memory i.args) ∧ a.holds C.prog (lone (Frame.enter C.prog f i.args .normal) [] (w.forCall tape i)))
    (contract : ∀ (W : World) (base : Nat) (args : Array Value) (ds gs : List (DataW H)) (before : List MemPlace),
      (∀ (j : Nat) t v, fn.params[j]? = some t → args[j]? = some v → Value.okWide C.prog W .any base t v) →
      DataW.Whole enc C.prog fn.params.toList s.vars apart W args.toList ds gs before →
      X W args → W.ShapedOpen C.prog →
      Calls C.prog f args W fun e W' => ∃ v, e = .returned v ∧ s.post enc C.prog fn apart fresh handsOn again W args v W') :
    ReturnsInHanded a C os f .any (fun w args => (s.pre enc C.prog fn conds apart w args ∧ X w args) ∧ sizedMet enc C.prog fn (OpenSpec.ofChange s) apart w args) (s.post enc C.prog fn apart fresh handsOn again) := by
  refine returnsInHanded_of_calls own started noInit witness ?_
  intro w tape i _ hsh _ hok hpre hholds
  obtain ⟨_, _, _, fn', hfn', _, _, _, _, hval⟩ := hok
  have e : fn' = fn := Option.some.inj (hfn'.symm.trans hfn)
  subst e
  obtain ⟨⟨⟨ds, gs, before, hw, hc⟩, hx⟩, hz⟩ := hpre
  have hw' := DataW.Whole.of_heap (w' := w.forCall tape i) (by rfl) hw
  refine (contract (w.forCall tape i) w.heap.size i.args ds gs before hval hw' (hX _ _ _ (by rfl) hx) hsh).mono fun e W' ⟨v, he, hp⟩ => ?_
  subst he
  exact ChangeSpec.post_blind hp

end Go.Proofs.YtckkmdigmecagaaGreatDoor

/-
  The statements about wire: begun, WireNone.
-/
namespace Go.Proofs.YtckkmdigmecagaaGreatDoor
open Go.RowKit

def begW : Bs := [71, 69, 84, 32, 47, 120, 32, 72, 84, 84, 80, 47, 49, 46, 49, 13, 10, 72, 111, 115, 116, 58, 32, 97, 13, 10, 13, 10]
def begQ : Rqp := ⟨[71, 69, 84], [47, 120], [([104, 111, 115, 116], [97])], [], true⟩
set_option maxRecDepth 100000 in
theorem feed_begW : feedW newW begW = ([begQ], newW, 0) := by rfl
theorem wire_begun {w : World} {base g : Nat} (h : WireB w base g newW ⟨none, 0, 0, none, 0, 0, none, none, 0, 0⟩) (hm : Mx w) (h0 : mxb < base) :
    Calls Tryz.prog 10 #[.pointer (some ⟨g, 0, none⟩), .slice (some ⟨w.heap.size, 0, none⟩) 28 28] (w.alloc (.cells #[.int .u8 71, .int .u8 69, .int .u8 84, .int .u8 32, .int .u8 47, .int .u8 120, .int .u8 32, .int .u8 72, .int .u8 84, .int .u8 84, .int .u8 80, .int .u8 47, .int .u8 49, .int .u8 46, .int .u8 49, .int .u8 13, .int .u8 10, .int .u8 72, .int .u8 111, .int .u8 115, .int .u8 116, .int .u8 58, .int .u8 32, .int .u8 97, .int .u8 13, .int .u8 10, .int .u8 13, .int .u8 10] 5 (28, 29))) fun e w' => ∃ A c m', e = .returned (.tuple #[.slice A 1 c, .int .i64 0]) ∧ WireB w' base g newW m' ∧ Below g w w' ∧ w'.cell? ⟨(at_ A 0).block, (at_ A 0).off + 1, none⟩ = some (.string ⟨#[47, 120]⟩) ∧ w'.cell? ⟨(at_ A 0).block, (at_ A 0).off + 4, none⟩ = some (.bool true) ∧ ∀ W, (Instr.indexAt 29 (.slice A 1 c) (.int .i64 0)).run Tryz.prog W = .ok (.pointer (some (at_ A 0))) W := by
  have hl : Rd (w.alloc (.cells #[.int .u8 71, .int .u8 69, .int .u8 84, .int .u8 32, .int .u8 47, .int .u8 120, .int .u8 32, .int .u8 72, .int .u8 84, .int .u8 84, .int .u8 80, .int .u8 47, .int .u8 49, .int .u8 46, .int .u8 49, .int .u8 13, .int .u8 10, .int .u8 72, .int .u8 111, .int .u8 115, .int .u8 116, .int .u8 58, .int .u8 32, .int .u8 97, .int .u8 13, .int .u8 10, .int .u8 13, .int .u8 10] 5 (28, 29))) 1 (some ⟨w.heap.size, 0, none⟩) 28 28 (begW.map b8) := (Own.new (base := 0) (e := 5) (size := 1) w (begW.map b8).toArray (28, 29) 28 28 (begW.map b8) (Nat.zero_le _) (Nat.le_refl _) (by decide) (by decide) (by decide) (by simp) (fun j _ h => by omega)).rd
  have hlt := h.lt
  have hbA : Below w.heap.size w (w.alloc (.cells #[.int .u8 71, .int .u8 69, .int .u8 84, .int .u8 32, .int .u8 47, .int .u8 120, .int .u8 32, .int .u8 72, .int .u8 84, .int .u8 84, .int .u8 80, .int .u8 47, .int .u8 49, .int .u8 46, .int .u8 49, .int .u8 13, .int .u8 10, .int .u8 72, .int .u8 111, .int .u8 115, .int .u8 116, .int .u8 58, .int .u8 32, .int .u8 97, .int .u8 13, .int .u8 10, .int .u8 13, .int .u8 10] 5 (28, 29))) := (Below.refl _ _).alloc (Nat.le_refl _) _
  refine (WFeed_any (h.below hbA) newOk (by decide) (hm.below hbA) h0 hl (by omega) (fun k hk => ?_)).mono ?_
  · have e : w.heap.size = k := by simpa [blk] using hk
    subst e
    refine ⟨by simp, fun hm => ?_⟩
    rcases hm with h1 | h1 | h1 | h1 | h1
    · omega
    · simp [blk] at h1
    · simp [blk] at h1
    · cases h1
    · simp [blk] at h1
  · rintro e w' ⟨A, n, c, l, m', rfl, hW, hR, hlm, hb, -, -⟩
    rw [feed_begW] at hW hlm ⊢
    obtain ⟨p, hp, rfl⟩ : ∃ p, p.1 = begQ ∧ l = [p] := by
      obtain ⟨p, hp1, hp2⟩ := List.map_eq_singleton_iff.1 hlm
      exact ⟨p, hp2, hp1⟩
    have hn : 1 = n := hR.len
    subst hn
    have hrd : Rd w' 5 A 1 c (RP.arr p).toList := by simpa [rqL] using hR.row.rd
    refine ⟨A, c, m', rfl, hW, ((Below.refl g w).alloc (Nat.le_of_lt hlt) _).trans (hb.below (fun i hi => ?_) (by simp; omega)), ?_, ?_, ?_⟩
    · rcases hi with h1 | h1 | h1 | h1 | h1
      · omega
      · simp [blk] at h1
      · simp [blk] at h1
      · cases h1
      · simp [blk] at h1
    · show w'.cell? ((at_ A 0).add 1) = _
      rw [Fl.at_add2]
      have := hrd.cell 1 (.string ⟨p.1.t.toArray⟩) rfl
      rw [hp] at this
      exact this
    · show w'.cell? ((at_ A 0).add 4) = _
      rw [Fl.at_add2]
      have := hrd.cell 4 (.bool p.1.kp) rfl
      rw [hp] at this
      exact this
    · intro W
      have := run_index_rd eq_ hrd.nil hrd.le 0 (by omega) W
      simpa using this

set_option maxRecDepth 20000 in
set_option maxHeartbeats 8000000 in
theorem wbegun_any (w : World) (hm : Mx w) (h1 : mxb < w.heap.size) : Calls Tryz.prog 6 #[] w fun e w' => e = .returned (.bool true) ∧ Below w.heap.size w w' := by
  have hcv := fun W => Lib.run_convert_bytes_const (P := Tryz.prog) W 27 5 #[.int .u8 71, .int .u8 69, .int .u8 84, .int .u8 32, .int .u8 47, .int .u8 120, .int .u8 32, .int .u8 72, .int .u8 84, .int .u8 84, .int .u8 80, .int .u8 47, .int .u8 49, .int .u8 46, .int .u8 49, .int .u8 13, .int .u8 10, .int .u8 72, .int .u8 111, .int .u8 115, .int .u8 116, .int .u8 58, .int .u8 32, .int .u8 97, .int .u8 13, .int .u8 10, .int .u8 13, .int .u8 10] 28 28 Tryz.underlying27 Tryz.underlying5
  go_enter Tryz.func6, Tryz.ntmps6
  go_wp2_with fail
  refine (New_any w).mono ?_
  rintro e w1 ⟨rfl, hW1, hb1⟩
  have HF := Lib.hid (wire_begun hW1 (hm.below hb1) h1)
  clear hW1
  go_wp2_with fail
  refine HF.out.mono ?_
  rintro e w2 ⟨A, c, m', rfl, hW2, hb2, k1, k4, hidx⟩
  have c0 := hW2.cells.1
  have HO := Lib.hid (Over_any c0)
  clear hW2 c0
  have HB := Lib.hid (hb1.trans (hb2.mono (Nat.le_refl _)))
  clear hb1 hb2
  go_wp2_with fail
  refine HO.out.mono ?_
  rintro e w3 ⟨rfl, rfl⟩
  go_wp2_with fail
  go_ret
  exact ⟨rfl, HB.out⟩

theorem mx_of {w : World} (h : w.ShapedOpen Tryz.checked.prog) : Mx w :=
  Go.Proofs.cell_of_shapedOpen_int (zero := #[.int .i64 0]) (t := 3) h (of_decide_eq_true (by kernel_rfl)) (by kernel_rfl) rfl (by kernel_rfl) (by kernel_rfl) Tryz.underlying3
theorem mx_size {w : World} (h : Mx w) : mxb < w.heap.size := by
  obtain ⟨M, hM⟩ := h
  have := World.block_lt_of_cell? w _ hM
  exact this
end Go.Proofs.YtckkmdigmecagaaGreatDoor
