/-
  The contracts of package cofferlaw0: Twin, Kept, Spoil.
-/
import Derived.Test.YtogkmlodcdgegaaDoorElem
namespace Go.Proofs.YtogkmlodcdgegaaDoor
open Go.RowKit

/-- The three bytes behind a twin. -/
def e5 : List UInt8 := [0xe5, 0xe5, 0xe5]

theorem madeCells_one (z : Value) (n : Nat) (hz : z.cells = #[z]) : (madeCells z.cells n).toList = List.replicate n z := by
  rw [hz]
  exact toList_madeCells_one z n

set_option maxHeartbeats 400000 in
theorem Twin_any (A : Option Addr) (n c : Nat) (l : List UInt8) (w : World) (h : Rd w 1 A n c (l.map b8)) (hn : n ≤ 1073741824) :
    Calls Tryd.prog 8 #[.slice A n c] w fun e w' => ∃ A', e = .returned (.slice A' n (n + 3)) ∧ Own w' w.heap.size 5 1 A' (n + 3) (n + 3) ((l ++ e5).map b8) ∧ Below w.heap.size w w' := by
  have hln := h.lenb
  have hsl := run_slice_h_rd (P := Tryd.prog) (A := some ⟨w.heap.size, 0, none⟩) (n := n + 3) (c := n + 3) eb (kh := .i64) n (H := (n : Int)) rfl (by omega)
  go_enter Tryd.func8, Tryd.ntmps8
  go_wp2_with (first
    | (at_make
       refine wpList_mk rfl _ _ rfl eb rfl rfl (n + 3) (n + 3) (by omega) (by omega) (by omega) (by omega) (by unfold maxLen; omega) (Nat.le_refl _) ?_
       intro w1 ho1 hg1 hz1
       rw [madeCells_one _ _ rfl] at ho1)
    | (refine wpList_cp (o := ⟨some 11, _, _, _, _, _⟩) rfl _ _ rfl eb ho1 rfl (h.grown hg1 (by simp)) rfl (b8_one _) ?_
       intro w2 ho2 hg2 hz2))
  have hb2 : Below w.heap.size w w2 := ((Below.refl _ _).grown hg1 (Nat.le_refl _) (by simp)).grown hg2 hg1.size (fun g hg => (ho1.lt g hg).1)
  have e1 : (l.map b8).take (n + 3) ++ (List.replicate ((n + 3) * 1) (Value.int .u8 0)).drop (min n (n + 3)) = l.map b8 ++ List.replicate 3 (Value.int .u8 0) := by
    rw [List.take_of_length_le (by simp; omega), List.drop_replicate]
    congr 2
    omega
  rw [e1] at ho2
  clear e1
  go_loopw [4] (fun i wr => ∃ j : Nat, n ≤ j ∧ j ≤ n + 3 ∧ i = .int .i64 j ∧ Own wr w.heap.size 5 1 (some ⟨w.heap.size, 0, none⟩) (n + 3) (n + 3) (l.map b8 ++ (List.replicate (j - n) (Value.int .u8 229) ++ List.replicate (n + 3 - j) (Value.int .u8 0))) ∧ Below w.heap.size w wr) (fun i _ => n + 3 - (intOf i).toNat)
  case atStart => exact ⟨n, by omega, by omega, rfl, by simpa using ho2, hb2⟩
  case round =>
    obtain ⟨j, hj1, hj2, rfl, ho, hb⟩ := hrel
    by_cases hjn : j < n + 3
    · have hidx := run_index_rd (P := Tryd.prog) (A := some ⟨w.heap.size, 0, none⟩) (n := n + 3) (c := n + 3) eb (fun h => by cases h) (Nat.le_refl _) j hjn
      rw [Nat.mul_one] at hidx
      have hfr := ho.free hjn
      have hce := ho.rd.cell j (.int .u8 0) (by
        rw [List.getElem?_append_right (by simp; omega), List.getElem?_append_right (by simp; omega), List.getElem?_replicate, if_pos (by simp; omega)])
      have hst := ho.store hjn (.int .u8 229)
      have hbs := below_store hb ho hjn (.int .u8 229)
      go_wp2_with fail
      go_roundw
      case rel =>
        refine ⟨j + 1, by omega, by omega, by go_num, ?_, hbs⟩
        have e2 : (l.map b8 ++ (List.replicate (j - n) (Value.int .u8 229) ++ List.replicate (n + 3 - j) (Value.int .u8 0))).set j (Value.int .u8 229) =
            l.map b8 ++ (List.replicate (j + 1 - n) (Value.int .u8 229) ++ List.replicate (n + 3 - (j + 1)) (Value.int .u8 0)) := by
          obtain ⟨d, rfl⟩ : ∃ d, j = n + d := ⟨j - n, by omega⟩
          obtain ⟨m, hm⟩ : ∃ m, n + 3 - (n + d) = m + 1 := ⟨2 - d, by omega⟩
          have e3 : n + d - n = d := by omega
          have e4 : n + d + 1 - n = d + 1 := by omega
          have e5' : n + 3 - (n + d + 1) = m := by omega
          rw [hm, e3, e4, e5', List.replicate_succ, List.set_append_right _ _ (by simp; omega), List.set_append_right _ _ (by simp; omega)]
          simp only [List.length_map, List.length_replicate, hln, Nat.add_sub_cancel_left, Nat.sub_self, List.set_cons_zero]
          rw [List.replicate_succ', List.append_assoc]
          rfl
        rw [e2] at hst
        exact hst
      case measure => simp [intOf]; omega
    · have e : j = n + 3 := by omega
      subst e
      go_wp2_with fail
      go_ret
      refine ⟨_, rfl, ?_, hb⟩
      have e6 : n + 3 - n = 3 := by omega
      have e7 : n + 3 - (n + 3) = 0 := by omega
      rw [e6, e7] at ho
      simpa [e5, b8] using ho

/-- A slice as a string. -/
theorem str_rd {A : Option Addr} {n c : Nat} {l : List UInt8} {w : World} (h : Rd w 1 A n c (l.map b8)) : (convert 22 9 (.slice A n c)).run Tryd.prog w = .ok (.string ⟨l.toArray⟩) w :=
  run_str_rd eb Tryd.underlying5 Tryd.underlying9 h

set_option maxHeartbeats 400000 in
theorem Kept_true (A : Option Addr) (n : Nat) (A2 : Option Addr) (c2 : Nat) (l : List UInt8) (w : World) (h : Rd w 1 A (n + 3) (n + 3) ((l ++ e5).map b8)) (h2 : Rd w 1 A2 n c2 (l.map b8)) (hn : n ≤ 1073741824) :
    Calls Tryd.prog 13 #[.slice A n (n + 3), .slice A2 n c2] w fun e w' => e = .returned (.bool true) ∧ w = w' := by
  have hln := h2.lenb
  have hsl := run_slice_h_rd (P := Tryd.prog) (A := A) (n := n) (c := n + 3) eb (kh := .i64) (n + 3) (H := (n : Int) + 3) (by omega) (by omega)
  have h1 : Rd w 1 A n (n + 3) (l.map b8) := by
    refine ⟨by simp [hln], by omega, h.max, h.nil, fun j u hu => h.cell j u ?_⟩
    rw [List.map_append, List.getElem?_append_left (by have := (List.getElem?_eq_some_iff.1 hu).1; exact this)]
    exact hu
  have hs1 := str_rd h1
  have hs2 := str_rd h2
  go_enter Tryd.func13, Tryd.ntmps13
  go_wp2_with fail
  go_loop [6] (fun i => ∃ j : Nat, n ≤ j ∧ j ≤ n + 3 ∧ i = .int .i64 j) (fun i => n + 3 - (intOf i).toNat)
  case atStart => exact ⟨n, by omega, by omega, rfl⟩
  case round =>
    obtain ⟨j, hj1, hj2, rfl⟩ := hrel
    by_cases hjn : j < n + 3
    · have hidx := run_index_rd (P := Tryd.prog) (A := A) (n := n + 3) (c := n + 3) eb h.nil (Nat.le_refl _) j hjn
      rw [Nat.mul_one] at hidx
      have hce := h.cell j (.int .u8 229) (by
        obtain ⟨d, rfl⟩ : ∃ d, j = n + d := ⟨j - n, by omega⟩
        rw [List.map_append, List.getElem?_append_right (by simp; omega)]
        simp only [List.length_map, hln, Nat.add_sub_cancel_left]
        have hd : d < 3 := by omega
        match d, hd with
        | 0, _ => rfl
        | 1, _ => rfl
        | 2, _ => rfl)
      go_wp2_with fail
      refine ⟨⟨j + 1, by omega, by omega, by go_num⟩, by simp [intOf]; omega⟩
    · have e : j = n + 3 := by omega
      subst e
      go_wp2_with fail
      go_ret
      exact ⟨rfl, rfl⟩

theorem Own.cellAt {w : World} {base : Nat} {e : TypeId} {n c : Nat} {A : Option Addr} {xs : List Value} (h : Own w base e 1 A n c xs) {k : Nat} (hk : k < c) : ∃ u, w.cell? (at_ A k) = some u := by
  cases A with
  | none => have := h.rd.nil rfl; omega
  | some a =>
    obtain ⟨h1, _, cur, fr, hh, hs, _⟩ := h.own a rfl
    obtain ⟨b, o, sp⟩ := a
    dsimp only at h1 hh hs
    subst h1
    have e1 : at_ (some ⟨b, o, none⟩) k = ⟨b, o + k, none⟩ := by rw [at_some]; unfold Addr.add; split <;> simp_all
    rw [e1]
    refine ⟨cur[o + k]'(by omega), ?_⟩
    simp only [World.cell?, hh]
    simp only [Option.isSome_none, Bool.false_eq_true, if_false]
    exact Array.getElem?_eq_getElem (by omega)

theorem grownBy_store {w0 w : World} {e : TypeId} {base n c : Nat} {A : Option Addr} {xs : List Value} (hg : w0.grownBy w (blk A)) (h : Own w base e 1 A n c xs) {k : Nat} (hk : k < c) (u : Value) : w0.grownBy (w.setCell (at_ A k) u) (blk A) := by
  cases A with
  | none => have := h.rd.nil rfl; omega
  | some a =>
    refine ⟨hg.os, hg.tape, hg.output, by simpa [World.setCell] using hg.size, fun q hq hne => ?_⟩
    rw [Below.heap_setCell _ _ _ _ (by rw [at_some, block_of_add]; intro e; exact hne (by rw [e]; rfl))]
    exact hg.block q hq hne

set_option maxHeartbeats 400000 in
theorem Spoil_any (base : Nat) (A : Option Addr) (n c : Nat) (xs : List Value) (w : World) (h : Own w base 5 1 A n c xs) :
    Calls Tryd.prog 14 #[.slice A n c] w fun e w' => e = .returned (.tuple #[]) ∧ w.grownBy w' (blk A) ∧ w'.heap.size = w.heap.size := by
  have hmx := h.rd.max
  have hle := h.rd.le
  have hnil := h.rd.nil
  unfold maxLen at hmx
  have hsl := run_slice_h_rd (P := Tryd.prog) (A := A) (n := n) (c := c) eb (kh := .i64) c (H := (c : Int)) rfl (Nat.le_refl _)
  have H := Lib.hid h
  clear h
  go_enter Tryd.func14, Tryd.ntmps14
  go_wp2_with fail
  go_loopw [3] (fun i wr => ∃ (j : Nat) (ys : List Value), j ≤ c ∧ i = .int .i64 j ∧ Own wr base 5 1 A n c ys ∧ w.grownBy wr (blk A) ∧ Hid (wr.heap.size = w.heap.size)) (fun i _ => c - (intOf i).toNat)
  case atStart => exact ⟨0, xs, by omega, rfl, H.out, World.grownBy.refl _ _, rfl⟩
  case round =>
    obtain ⟨j, ys, hj, rfl, ho, hg, hz⟩ := hrel
    by_cases hjn : j < c
    · have hidx := run_index_rd (P := Tryd.prog) (A := A) (n := c) (c := c) eb hnil (Nat.le_refl _) j hjn
      rw [Nat.mul_one] at hidx
      have hfr := ho.free hjn
      obtain ⟨u, hce⟩ := ho.cellAt hjn
      have hst := ho.store hjn (.int .u8 90)
      have hgs := grownBy_store hg ho hjn (.int .u8 90)
      have hzs := Lib.hid (show (wr.setCell (at_ A j) (.int .u8 90)).heap.size = w.heap.size by rw [← hz.out]; simp [World.setCell])
      go_wp2_with fail
      go_roundw
      case rel => exact ⟨j + 1, _, by omega, by go_num, hst, hgs, hzs⟩
      case measure => simp [intOf]; omega
    · go_wp2_with fail
      go_end0
      exact ⟨rfl, hg, hz.out⟩

end Go.Proofs.YtogkmlodcdgegaaDoor
