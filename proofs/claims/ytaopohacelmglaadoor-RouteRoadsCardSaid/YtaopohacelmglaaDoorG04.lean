/-
  Joined texts of this claim's author (each began as a text of its own; each says itself what it holds).
-/
import Derived.Test.YtaopohacelmglaaDoorG00
import Derived.Test.YtaopohacelmglaaDoorG02
import Derived.IntWalk
import Derived.Test.YtaopohacelmglaaDoorG03
set_option linter.unusedVariables false
set_option linter.unusedSimpArgs false

/-
  Package names: May, and the document's May.
-/
namespace Go.Proofs.YtaopohacelmglaaDoor.Nm
open Go.RowKit

/-- May a byte stand in a name? -/
def inName (c : Int) : Prop := (97 ≤ c ∧ c ≤ 122) ∨ (48 ≤ c ∧ c ≤ 57) ∨ c = 45
def nameP (s : ByteArray) : Prop := 1 ≤ s.size ∧ s.size ≤ 16 ∧ (∀ h : 0 < s.size, 97 ≤ (s[0].toNat : Int) ∧ (s[0].toNat : Int) ≤ 122) ∧ ∀ k (hk : k < s.size), inName (s[k].toNat : Int)
noncomputable def nameB (s : ByteArray) : Bool := @decide (nameP s) (Classical.propDecidable _)
theorem nameB_no {s : ByteArray} (h : ¬ nameP s) : nameB s = false := by
  unfold nameB
  exact @decide_eq_false _ (Classical.propDecidable _) h
theorem nameB_yes {s : ByteArray} (h : nameP s) : nameB s = true := by
  unfold nameB
  exact @decide_eq_true _ (Classical.propDecidable _) h
theorem byte_case (c : Int) : (97 ≤ c ∧ c ≤ 122) ∨ (48 ≤ c ∧ c ≤ 57) ∨ c = 45 ∨ (c < 45) ∨ (45 < c ∧ c < 48) ∨ (57 < c ∧ c < 97) ∨ 122 < c := by omega

set_option maxRecDepth 20000 in
set_option maxHeartbeats 4000000 in
theorem May_any (s : ByteArray) (w : World) : Calls Tryd.prog 42 #[.string s] w fun e w' => e = .returned (.bool (nameB s)) ∧ w = w' := by
  by_cases h1 : (s.size : Int) < 1
  · have HN := Lib.hid (nameB_no (s := s) (fun h => by have := h.1; omega))
    go_enter Tryd.func42, Tryd.ntmps42
    go_wp2_with fail
    go_ret
    rw [HN.out]
    exact ⟨rfl, rfl⟩
  by_cases h2 : (16 : Int) < s.size
  · have HN := Lib.hid (nameB_no (s := s) (fun h => by have := h.2.1; omega))
    have h1' : decide ((s.size : Int) < 1) = false := by simpa using h1
    clear h1
    go_enter Tryd.func42, Tryd.ntmps42
    go_wp2_with fail
    go_ret
    rw [HN.out]
    exact ⟨rfl, rfl⟩
  have h0 : 0 < s.size := by omega
  have h1' : (1 : Int) ≤ s.size := by omega
  have h2' : (s.size : Int) ≤ 16 := by omega
  clear h1 h2
  by_cases h3 : (s[0].toNat : Int) < 97
  · have HN := Lib.hid (nameB_no (s := s) (fun h => by have := (h.2.2.1 h0).1; omega))
    go_enter Tryd.func42, Tryd.ntmps42
    go_wp2_with fail
    go_ret
    rw [HN.out]
    exact ⟨rfl, rfl⟩
  by_cases h4 : 122 < (s[0].toNat : Int)
  · have HN := Lib.hid (nameB_no (s := s) (fun h => by have := (h.2.2.1 h0).2; omega))
    have h3' : 97 ≤ (s[0].toNat : Int) := by omega
    clear h3
    go_enter Tryd.func42, Tryd.ntmps42
    go_wp2_with fail
    go_ret
    rw [HN.out]
    exact ⟨rfl, rfl⟩
  have h3' : 97 ≤ (s[0].toNat : Int) := by omega
  have h4' : (s[0].toNat : Int) ≤ 122 := by omega
  clear h3 h4
  go_enter Tryd.func42, Tryd.ntmps42
  go_wp2_with fail
  go_loop [25] (fun i => ∃ k : Nat, k ≤ s.size ∧ i = .int .i64 k ∧ Hid (∀ j (hj : j < s.size), j < k → inName (s[j].toNat : Int))) (fun i => s.size - (intOf i).toNat)
  case atStart => exact ⟨0, by omega, rfl, (show ∀ j (hj : j < s.size), j < 0 → _ from fun j _ h => absurd h (Nat.not_lt_zero j))⟩
  case round =>
    obtain ⟨k, hk, rfl, hH⟩ := hrel
    by_cases hlt : k < s.size
    · have HS : Hid (inName (s[k].toNat : Int) → ∀ j (hj : j < s.size), j < k + 1 → inName (s[j].toNat : Int)) := by
        show _ → _
        intro h j hj hjk
        by_cases e : j = k
        · subst e
          exact h
        · exact hH.out j hj (by omega)
      have HN : Hid (¬ inName (s[k].toNat : Int) → nameB s = false) := by
        show _ → _
        exact fun h => nameB_no fun h2 => h (h2.2.2.2 k hlt)
      rcases byte_case (s[k].toNat : Int) with ⟨c1, c2⟩ | ⟨c1, c2⟩ | c1 | c1 | ⟨c1, c2⟩ | ⟨c1, c2⟩ | c1
      · go_wp2_with fail
        exact ⟨⟨k + 1, by omega, by go_num, HS.out (.inl ⟨c1, c2⟩)⟩, by simp [intOf]; omega⟩
      · go_wp2_with fail
        exact ⟨⟨k + 1, by omega, by go_num, HS.out (.inr (.inl ⟨c1, c2⟩))⟩, by simp [intOf]; omega⟩
      · have hs := HS.out (.inr (.inr c1))
        have HS2 := Lib.hid hs
        have c2 : ((s[k].toNat : Int) == 45) = true := by simpa using c1
        have c3 : (s[k].toNat : Int) < 48 := by omega
        clear hs c1
        go_wp2_with fail
        exact ⟨⟨k + 1, by omega, by go_num, HS2.out⟩, by simp [intOf]; omega⟩
      all_goals
        have HN2 := Lib.hid (HN.out (by unfold inName; omega))
        have c9 : ((s[k].toNat : Int) == 45) = false := by
          simp
          omega
        go_wp2_with fail
        go_ret
        rw [HN2.out]
        exact ⟨rfl, rfl⟩
    · have HY := Lib.hid (nameB_yes (s := s) ⟨by omega, by omega, fun _ => ⟨h3', h4'⟩, fun j hj => hH.out j hj (by omega)⟩)
      go_wp2_with fail
      go_ret
      rw [HY.out]
      exact ⟨rfl, rfl⟩

end Go.Proofs.YtaopohacelmglaaDoor.Nm

/-
  The contracts of package cofferlaw0: Twin, Kept, Spoil.
-/
namespace Go.Proofs.YtaopohacelmglaaDoor
open Go.RowKit

/-- The three bytes behind a twin. -/
def e5 : List UInt8 := [0xe5, 0xe5, 0xe5]

theorem madeCells_one (z : Value) (n : Nat) (hz : z.cells = #[z]) : (madeCells z.cells n).toList = List.replicate n z := by
  rw [hz]
  exact toList_madeCells_one z n

set_option maxRecDepth 20000 in
set_option maxHeartbeats 400000 in
theorem Twin_any (A : Option Addr) (n c : Nat) (l : List UInt8) (w : World) (h : Rd w 1 A n c (l.map b8)) (hn : n ≤ 1073741824) :
    Calls Tryd.prog 9 #[.slice A n c] w fun e w' => ∃ A', e = .returned (.slice A' n (n + 3)) ∧ Own w' w.heap.size 5 1 A' (n + 3) (n + 3) ((l ++ e5).map b8) ∧ Below w.heap.size w w' := by
  have hln := h.lenb
  have hsl := run_slice_h_rd (P := Tryd.prog) (A := some ⟨w.heap.size, 0, none⟩) (n := n + 3) (c := n + 3) eb (kh := .i64) n (H := (n : Int)) rfl (by omega)
  go_enter Tryd.func9, Tryd.ntmps9
  go_wp2_with (first
    | (at_make
       refine wpList_mk rfl _ _ rfl eb rfl rfl (n + 3) (n + 3) (by omega) (by omega) (by omega) (by omega) (by unfold maxLen; omega) (Nat.le_refl _) ?_
       intro w1 ho1 hg1 hz1
       rw [madeCells_one _ _ rfl] at ho1)
    | (refine wpList_cp (o := ⟨some 11, _, _, _, _, _⟩) rfl _ _ rfl eb ho1 rfl (h.grown hg1 (by simp)) rfl (b8_one _) ?_
       intro w2 ho2 hg2 hz2))
  have hb2 : Below w.heap.size w w2 := ((Below.refl _ _).grown hg1 (Nat.le_refl _) (by simp)).grown hg2 hg1.size (fun g hg => (ho1.lt g hg).1)
  have e1 : (l.map b8).take (n + 3) ++ (List.replicate ((n + 3) * 1) (Value.int .u8 0)).drop (min n (n + 3)) = l.map b8 ++ List.replicate 3 (Value.int .u8 0) := by
    rw [List.take_of_length_le (by simp; omega), List.drop_replicate]
    congr 2
    omega
  rw [e1] at ho2
  clear e1
  go_loopw [4] (fun i wr => ∃ j : Nat, n ≤ j ∧ j ≤ n + 3 ∧ i = .int .i64 j ∧ Own wr w.heap.size 5 1 (some ⟨w.heap.size, 0, none⟩) (n + 3) (n + 3) (l.map b8 ++ (List.replicate (j - n) (Value.int .u8 229) ++ List.replicate (n + 3 - j) (Value.int .u8 0))) ∧ Below w.heap.size w wr) (fun i _ => n + 3 - (intOf i).toNat)
  case atStart => exact ⟨n, by omega, by omega, rfl, by simpa using ho2, hb2⟩
  case round =>
    obtain ⟨j, hj1, hj2, rfl, ho, hb⟩ := hrel
    by_cases hjn : j < n + 3
    · have hidx := run_index_rd (P := Tryd.prog) (A := some ⟨w.heap.size, 0, none⟩) (n := n + 3) (c := n + 3) eb (fun h => by cases h) (Nat.le_refl _) j hjn
      rw [Nat.mul_one] at hidx
      have hfr := ho.free hjn
      have hce := ho.rd.cell j (.int .u8 0) (by
        rw [List.getElem?_append_right (by simp; omega), List.getElem?_append_right (by simp; omega), List.getElem?_replicate, if_pos (by simp; omega)])
      have hst := ho.store hjn (.int .u8 229)
      have hbs := below_store hb ho hjn (.int .u8 229)
      go_wp2_with fail
      go_roundw
      case rel =>
        refine ⟨j + 1, by omega, by omega, by go_num, ?_, hbs⟩
        have e2 : (l.map b8 ++ (List.replicate (j - n) (Value.int .u8 229) ++ List.replicate (n + 3 - j) (Value.int .u8 0))).set j (Value.int .u8 229) =
            l.map b8 ++ (List.replicate (j + 1 - n) (Value.int .u8 229) ++ List.replicate (n + 3 - (j + 1)) (Value.int .u8 0)) := by
          obtain ⟨d, rfl⟩ : ∃ d, j = n + d := ⟨j - n, by omega⟩
          obtain ⟨m, hm⟩ : ∃ m, n + 3 - (n + d) = m + 1 := ⟨2 - d, by omega⟩
          have e3 : n + d - n = d := by omega
          have e4 : n + d + 1 - n = d + 1 := by omega
          have e5' : n + 3 - (n + d + 1) = m := by omega
          rw [hm, e3, e4, e5', List.replicate_succ, List.set_append_right _ _ (by simp; omega), List.set_append_right _ _ (by simp; omega)]
          simp only [List.length_map, List.length_replicate, hln, Nat.add_sub_cancel_left, Nat.sub_self, List.set_cons_zero]
          rw [List.replicate_succ', List.append_assoc]
          rfl
        rw [e2] at hst
        exact hst
      case measure => simp [intOf]; omega
    · have e : j = n + 3 := by omega
      subst e
      go_wp2_with fail
      go_ret
      refine ⟨_, rfl, ?_, hb⟩
      have e6 : n + 3 - n = 3 := by omega
      have e7 : n + 3 - (n + 3) = 0 := by omega
      rw [e6, e7] at ho
      simpa [e5, b8] using ho

set_option maxRecDepth 20000 in
set_option maxHeartbeats 400000 in
theorem Kept_true (A : Option Addr) (n : Nat) (A2 : Option Addr) (c2 : Nat) (l : List UInt8) (w : World) (h : Rd w 1 A (n + 3) (n + 3) ((l ++ e5).map b8)) (h2 : Rd w 1 A2 n c2 (l.map b8)) (hn : n ≤ 1073741824) :
    Calls Tryd.prog 12 #[.slice A n (n + 3), .slice A2 n c2] w fun e w' => e = .returned (.bool true) ∧ w = w' := by
  have hln := h2.lenb
  have hsl := run_slice_h_rd (P := Tryd.prog) (A := A) (n := n) (c := n + 3) eb (kh := .i64) (n + 3) (H := (n : Int) + 3) (by omega) (by omega)
  have h1 : Rd w 1 A n (n + 3) (l.map b8) := by
    refine ⟨by simp [hln], by omega, h.max, h.nil, fun j u hu => h.cell j u ?_⟩
    rw [List.map_append, List.getElem?_append_left (by have := (List.getElem?_eq_some_iff.1 hu).1; exact this)]
    exact hu
  have hs1 := str_rd h1
  have hs2 := str_rd h2
  go_enter Tryd.func12, Tryd.ntmps12
  go_wp2_with fail
  go_loop [6] (fun i => ∃ j : Nat, n ≤ j ∧ j ≤ n + 3 ∧ i = .int .i64 j) (fun i => n + 3 - (intOf i).toNat)
  case atStart => exact ⟨n, by omega, by omega, rfl⟩
  case round =>
    obtain ⟨j, hj1, hj2, rfl⟩ := hrel
    by_cases hjn : j < n + 3
    · have hidx := run_index_rd (P := Tryd.prog) (A := A) (n := n + 3) (c := n + 3) eb h.nil (Nat.le_refl _) j hjn
      rw [Nat.mul_one] at hidx
      have hce := h.cell j (.int .u8 229) (by
        obtain ⟨d, rfl⟩ : ∃ d, j = n + d := ⟨j - n, by omega⟩
        rw [List.map_append, List.getElem?_append_right (by simp; omega)]
        simp only [List.length_map, hln, Nat.add_sub_cancel_left]
        have hd : d < 3 := by omega
        match d, hd with
        | 0, _ => rfl
        | 1, _ => rfl
        | 2, _ => rfl)
      go_wp2_with fail
      refine ⟨⟨j + 1, by omega, by omega, by go_num⟩, by simp [intOf]; omega⟩
    · have e : j = n + 3 := by omega
      subst e
      go_wp2_with fail
      go_ret
      exact ⟨rfl, rfl⟩

theorem Own.cellAt {w : World} {base : Nat} {e : TypeId} {n c : Nat} {A : Option Addr} {xs : List Value} (h : Own w base e 1 A n c xs) {k : Nat} (hk : k < c) : ∃ u, w.cell? (at_ A k) = some u := by
  cases A with
  | none => have := h.rd.nil rfl; omega
  | some a =>
    obtain ⟨h1, _, cur, fr, hh, hs, _⟩ := h.own a rfl
    obtain ⟨b, o, sp⟩ := a
    dsimp only at h1 hh hs
    subst h1
    have e1 : at_ (some ⟨b, o, none⟩) k = ⟨b, o + k, none⟩ := by rw [at_some]; unfold Addr.add; split <;> simp_all
    rw [e1]
    refine ⟨cur[o + k]'(by omega), ?_⟩
    simp only [World.cell?, hh]
    simp only [Option.isSome_none, Bool.false_eq_true, if_false]
    exact Array.getElem?_eq_getElem (by omega)

theorem grownBy_store {w0 w : World} {e : TypeId} {base n c : Nat} {A : Option Addr} {xs : List Value} (hg : w0.grownBy w (blk A)) (h : Own w base e 1 A n c xs) {k : Nat} (hk : k < c) (u : Value) : w0.grownBy (w.setCell (at_ A k) u) (blk A) := by
  cases A with
  | none => have := h.rd.nil rfl; omega
  | some a =>
    refine ⟨hg.os, hg.tape, hg.output, by simpa [World.setCell] using hg.size, fun q hq hne => ?_⟩
    rw [Below.heap_setCell _ _ _ _ (by rw [at_some, block_of_add]; intro e; exact hne (by rw [e]; rfl))]
    exact hg.block q hq hne

set_option maxRecDepth 20000 in
set_option maxHeartbeats 400000 in
theorem Spoil_any (base : Nat) (A : Option Addr) (n c : Nat) (xs : List Value) (w : World) (h : Own w base 5 1 A n c xs) :
    Calls Tryd.prog 13 #[.slice A n c] w fun e w' => e = .returned (.tuple #[]) ∧ w.grownBy w' (blk A) ∧ w'.heap.size = w.heap.size := by
  have hmx := h.rd.max
  have hle := h.rd.le
  have hnil := h.rd.nil
  unfold maxLen at hmx
  have hsl := run_slice_h_rd (P := Tryd.prog) (A := A) (n := n) (c := c) eb (kh := .i64) c (H := (c : Int)) rfl (Nat.le_refl _)
  have H := Lib.hid h
  clear h
  go_enter Tryd.func13, Tryd.ntmps13
  go_wp2_with fail
  go_loopw [3] (fun i wr => ∃ (j : Nat) (ys : List Value), j ≤ c ∧ i = .int .i64 j ∧ Own wr base 5 1 A n c ys ∧ w.grownBy wr (blk A) ∧ Hid (wr.heap.size = w.heap.size)) (fun i _ => c - (intOf i).toNat)
  case atStart => exact ⟨0, xs, by omega, rfl, H.out, World.grownBy.refl _ _, rfl⟩
  case round =>
    obtain ⟨j, ys, hj, rfl, ho, hg, hz⟩ := hrel
    by_cases hjn : j < c
    · have hidx := run_index_rd (P := Tryd.prog) (A := A) (n := c) (c := c) eb hnil (Nat.le_refl _) j hjn
      rw [Nat.mul_one] at hidx
      have hfr := ho.free hjn
      obtain ⟨u, hce⟩ := ho.cellAt hjn
      have hst := ho.store hjn (.int .u8 90)
      have hgs := grownBy_store hg ho hjn (.int .u8 90)
      have hzs := Lib.hid (show (wr.setCell (at_ A j) (.int .u8 90)).heap.size = w.heap.size by rw [← hz.out]; simp [World.setCell])
      go_wp2_with fail
      go_roundw
      case rel => exact ⟨j + 1, _, by omega, by go_num, hst, hgs, hzs⟩
      case measure => simp [intOf]; omega
    · go_wp2_with fail
      go_end0
      exact ⟨rfl, hg, hz.out⟩

end Go.Proofs.YtaopohacelmglaaDoor

/-
  Package names: digits and hexadecimal text.
-/
namespace Go.Proofs.YtaopohacelmglaaDoor.Nm
open Go.RowKit

def dg (d : Nat) : UInt8 := UInt8.ofNat (if d < 10 then 48 + d else 87 + d)
theorem b8_dg_lo (d : Nat) (h : d < 10) : b8 (dg d) = .int .u8 (48 + (d : Int)) := by
  unfold dg b8
  rw [if_pos h, UInt8.toNat_ofNat']
  congr 1
  omega
theorem b8_dg_hi (d : Nat) (h : 10 ≤ d) (h2 : d < 16) : b8 (dg d) = .int .u8 (97 + (d : Int) - 10) := by
  unfold dg b8
  rw [if_neg (by omega), UInt8.toNat_ofNat']
  congr 1
  omega
def dgI (d : Nat) : Int := (dg d).toNat
theorem b8_dgI (d : Nat) : b8 (dg d) = .int .u8 (dgI d) := rfl
def hexB (x : UInt8) : List UInt8 := [dg (x.toNat / 16), dg (x.toNat % 16)]
def hexL : List UInt8 → List UInt8
  | [] => []
  | x :: l => hexB x ++ hexL l
theorem hexL_length (l : List UInt8) : (hexL l).length = 2 * l.length := by
  induction l with
  | nil => rfl
  | cons x l ih => simp [hexL, hexB, ih]; omega
theorem hexL_append (l m : List UInt8) : hexL (l ++ m) = hexL l ++ hexL m := by
  induction l with
  | nil => rfl
  | cons x l ih => simp [hexL, ih]
theorem hexL_take (l : List UInt8) (k : Nat) (h : k < l.length) : hexL (l.take (k + 1)) = hexL (l.take k) ++ hexB l[k] := by
  rw [List.take_succ_eq_append_getElem h, hexL_append]
  simp [hexL]
theorem u8_and15 : ∀ x : UInt8, bits .and .u8 (x.toNat : Int) 15 = ((x.toNat % 16 : Nat) : Int) := by
  intro x
  have h : ∀ a : Fin 256, bits .and .u8 (a.1 : Int) 15 = ((a.1 % 16 : Nat) : Int) := by decide +kernel
  exact h ⟨x.toNat, x.toNat_lt⟩

end Go.Proofs.YtaopohacelmglaaDoor.Nm

/-
  Package names: half a byte's digit, read.
-/
namespace Go.Proofs.YtaopohacelmglaaDoor.Nm
open Go.RowKit

/-- What a digit says: -1 for none. -/
def halfI (x : Int) : Int := if 48 ≤ x ∧ x ≤ 57 then x - 48 else if 97 ≤ x ∧ x ≤ 102 then x - 97 + 10 else -1
def halfV (x : Int) : Int := if halfI x < 0 then 0 else halfI x
def halfB (x : Int) : Bool := decide (0 ≤ halfI x)
theorem half_yes {x h : Int} (e : halfI x = h) (h0 : 0 ≤ h) : halfV x = h ∧ halfB x = true := by
  unfold halfV halfB
  rw [e]
  exact ⟨if_neg (by omega), decide_eq_true h0⟩
theorem half_no {x : Int} (e : halfI x = -1) : halfV x = 0 ∧ halfB x = false := by
  unfold halfV halfB
  rw [e]
  exact ⟨rfl, rfl⟩
theorem half_case (x : Int) : (48 ≤ x ∧ x ≤ 57) ∨ (97 ≤ x ∧ x ≤ 102) ∨ x < 48 ∨ (57 < x ∧ x < 97) ∨ 102 < x := by omega
theorem half_any (x : Int) (h0 : 0 ≤ x) (h1 : x ≤ 255) (w : World) : Calls Tryd.prog 63 #[.int .u8 x] w fun e w' => e = .returned (.tuple #[.int .u8 (halfV x), .bool (halfB x)]) ∧ w = w' := by
  rcases half_case x with ⟨c1, c2⟩ | ⟨c1, c2⟩ | c1 | ⟨c1, c2⟩ | c1
  · have HE := Lib.hid (half_yes (x := x) (h := x - 48) (if_pos ⟨c1, c2⟩) (by omega))
    clear h0 h1
    go_enter Tryd.func63, Tryd.ntmps63
    go_wp2_with fail
    go_ret2
    rw [HE.out.1, HE.out.2]
    exact ⟨rfl, rfl⟩
  · have HE := Lib.hid (half_yes (x := x) (h := x - 97 + 10) ((if_neg (by omega)).trans (if_pos ⟨c1, c2⟩)) (by omega))
    clear h0 h1
    go_enter Tryd.func63, Tryd.ntmps63
    go_wp2_with fail
    go_ret2
    rw [HE.out.1, HE.out.2]
    exact ⟨rfl, rfl⟩
  all_goals
    have HE := Lib.hid (half_no (x := x) ((if_neg (by omega)).trans (if_neg (by omega))))
    go_enter Tryd.func63, Tryd.ntmps63
    go_wp2_with fail
    all_goals first
      | (go_ret2; rw [HE.out.1, HE.out.2]; exact ⟨rfl, rfl⟩)
      | (exfalso; simp at *; omega)

end Go.Proofs.YtaopohacelmglaaDoor.Nm

/-
  Package names: the document's digit.
-/
namespace Go.Proofs.YtaopohacelmglaaDoor.Nm
open Go.RowKit

theorem halfI_range (x : Int) : halfI x = -1 ∨ (0 ≤ halfI x ∧ halfI x ≤ 15) := by
  unfold halfI
  split
  · omega
  · split <;> omega
theorem halfI_next {x : Int} {k c : Int} (hk : 0 ≤ k) (hc : c = if k < 10 then 48 + k else 87 + k) (h : halfI x = -1 ∨ k ≤ halfI x) (hne : x ≠ c) : halfI x = -1 ∨ k + 1 ≤ halfI x := by
  rcases h with h | h
  · exact .inl h
  · refine .inr ?_
    have : halfI x ≠ k := by
      intro e
      unfold halfI at e
      split at e
      · split at hc <;> omega
      · split at e <;> split at hc <;> omega
    omega

set_option maxRecDepth 20000 in
set_option maxHeartbeats 2000000 in
theorem RDigit_any (x : Int) (h0 : 0 ≤ x) (h1 : x ≤ 255) (w : World) : Calls Tryd.prog 55 #[.int .u8 x] w fun e w' => e = .returned (.int .i64 (halfI x)) ∧ w = w' := by
  go_enter Tryd.func55, Tryd.ntmps55
  go_wp2_with fail
  go_loop [3] (fun i => ∃ k : Nat, k ≤ 16 ∧ i = .int .i64 k ∧ Hid (halfI x = -1 ∨ (k : Int) ≤ halfI x)) (fun i => 16 - (intOf i).toNat)
  case atStart => exact ⟨0, by omega, rfl, (show _ ∨ _ from by rcases halfI_range x with h | h <;> omega)⟩
  case round =>
    obtain ⟨k, hk, rfl, hH⟩ := hrel
    have hcs : k = 0 ∨ k = 1 ∨ k = 2 ∨ k = 3 ∨ k = 4 ∨ k = 5 ∨ k = 6 ∨ k = 7 ∨ k = 8 ∨ k = 9 ∨ k = 10 ∨ k = 11 ∨ k = 12 ∨ k = 13 ∨ k = 14 ∨ k = 15 ∨ k = 16 := by omega
    rcases hcs with rfl | rfl | rfl | rfl | rfl | rfl | rfl | rfl | rfl | rfl | rfl | rfl | rfl | rfl | rfl | rfl | rfl
    · by_cases hx : x = 48
      · subst hx
        have HE := Lib.hid (show halfI 48 = 0 by decide)
        have hx1 : (((⟨#[48, 49, 50, 51, 52, 53, 54, 55, 56, 57, 97, 98, 99, 100, 101, 102]⟩ : ByteArray)[0]'(by decide)).toNat : Int) = 48 := by rfl
        clear hH
        go_wp2_with fail
        go_ret
        rw [HE.out]
        exact ⟨rfl, rfl⟩
      · have HN := Lib.hid (halfI_next (k := 0) (c := 48) (by omega) (by rfl) hH.out hx)
        have hx1 : ((((⟨#[48, 49, 50, 51, 52, 53, 54, 55, 56, 57, 97, 98, 99, 100, 101, 102]⟩ : ByteArray)[0]'(by decide)).toNat : Int) == x) = false := by
          show ((48 : Int) == x) = false
          simp
          omega
        clear hx
        go_wp2_with fail
        exact ⟨⟨1, by omega, by go_num, HN.out⟩, by decide⟩
    · by_cases hx : x = 49
      · subst hx
        have HE := Lib.hid (show halfI 49 = 1 by decide)
        have hx1 : (((⟨#[48, 49, 50, 51, 52, 53, 54, 55, 56, 57, 97, 98, 99, 100, 101, 102]⟩ : ByteArray)[1]'(by decide)).toNat : Int) = 49 := by rfl
        clear hH
        go_wp2_with fail
        go_ret
        rw [HE.out]
        exact ⟨rfl, rfl⟩
      · have HN := Lib.hid (halfI_next (k := 1) (c := 49) (by omega) (by rfl) hH.out hx)
        have hx1 : ((((⟨#[48, 49, 50, 51, 52, 53, 54, 55, 56, 57, 97, 98, 99, 100, 101, 102]⟩ : ByteArray)[1]'(by decide)).toNat : Int) == x) = false := by
          show ((49 : Int) == x) = false
          simp
          omega
        clear hx
        go_wp2_with fail
        exact ⟨⟨2, by omega, by go_num, HN.out⟩, by decide⟩
    · by_cases hx : x = 50
      · subst hx
        have HE := Lib.hid (show halfI 50 = 2 by decide)
        have hx1 : (((⟨#[48, 49, 50, 51, 52, 53, 54, 55, 56, 57, 97, 98, 99, 100, 101, 102]⟩ : ByteArray)[2]'(by decide)).toNat : Int) = 50 := by rfl
        clear hH
        go_wp2_with fail
        go_ret
        rw [HE.out]
        exact ⟨rfl, rfl⟩
      · have HN := Lib.hid (halfI_next (k := 2) (c := 50) (by omega) (by rfl) hH.out hx)
        have hx1 : ((((⟨#[48, 49, 50, 51, 52, 53, 54, 55, 56, 57, 97, 98, 99, 100, 101, 102]⟩ : ByteArray)[2]'(by decide)).toNat : Int) == x) = false := by
          show ((50 : Int) == x) = false
          simp
          omega
        clear hx
        go_wp2_with fail
        exact ⟨⟨3, by omega, by go_num, HN.out⟩, by decide⟩
    · by_cases hx : x = 51
      · subst hx
        have HE := Lib.hid (show halfI 51 = 3 by decide)
        have hx1 : (((⟨#[48, 49, 50, 51, 52, 53, 54, 55, 56, 57, 97, 98, 99, 100, 101, 102]⟩ : ByteArray)[3]'(by decide)).toNat : Int) = 51 := by rfl
        clear hH
        go_wp2_with fail
        go_ret
        rw [HE.out]
        exact ⟨rfl, rfl⟩
      · have HN := Lib.hid (halfI_next (k := 3) (c := 51) (by omega) (by rfl) hH.out hx)
        have hx1 : ((((⟨#[48, 49, 50, 51, 52, 53, 54, 55, 56, 57, 97, 98, 99, 100, 101, 102]⟩ : ByteArray)[3]'(by decide)).toNat : Int) == x) = false := by
          show ((51 : Int) == x) = false
          simp
          omega
        clear hx
        go_wp2_with fail
        exact ⟨⟨4, by omega, by go_num, HN.out⟩, by decide⟩
    · by_cases hx : x = 52
      · subst hx
        have HE := Lib.hid (show halfI 52 = 4 by decide)
        have hx1 : (((⟨#[48, 49, 50, 51, 52, 53, 54, 55, 56, 57, 97, 98, 99, 100, 101, 102]⟩ : ByteArray)[4]'(by decide)).toNat : Int) = 52 := by rfl
        clear hH
        go_wp2_with fail
        go_ret
        rw [HE.out]
        exact ⟨rfl, rfl⟩
      · have HN := Lib.hid (halfI_next (k := 4) (c := 52) (by omega) (by rfl) hH.out hx)
        have hx1 : ((((⟨#[48, 49, 50, 51, 52, 53, 54, 55, 56, 57, 97, 98, 99, 100, 101, 102]⟩ : ByteArray)[4]'(by decide)).toNat : Int) == x) = false := by
          show ((52 : Int) == x) = false
          simp
          omega
        clear hx
        go_wp2_with fail
        exact ⟨⟨5, by omega, by go_num, HN.out⟩, by decide⟩
    · by_cases hx : x = 53
      · subst hx
        have HE := Lib.hid (show halfI 53 = 5 by decide)
        have hx1 : (((⟨#[48, 49, 50, 51, 52, 53, 54, 55, 56, 57, 97, 98, 99, 100, 101, 102]⟩ : ByteArray)[5]'(by decide)).toNat : Int) = 53 := by rfl
        clear hH
        go_wp2_with fail
        go_ret
        rw [HE.out]
        exact ⟨rfl, rfl⟩
      · have HN := Lib.hid (halfI_next (k := 5) (c := 53) (by omega) (by rfl) hH.out hx)
        have hx1 : ((((⟨#[48, 49, 50, 51, 52, 53, 54, 55, 56, 57, 97, 98, 99, 100, 101, 102]⟩ : ByteArray)[5]'(by decide)).toNat : Int) == x) = false := by
          show ((53 : Int) == x) = false
          simp
          omega
        clear hx
        go_wp2_with fail
        exact ⟨⟨6, by omega, by go_num, HN.out⟩, by decide⟩
    · by_cases hx : x = 54
      · subst hx
        have HE := Lib.hid (show halfI 54 = 6 by decide)
        have hx1 : (((⟨#[48, 49, 50, 51, 52, 53, 54, 55, 56, 57, 97, 98, 99, 100, 101, 102]⟩ : ByteArray)[6]'(by decide)).toNat : Int) = 54 := by rfl
        clear hH
        go_wp2_with fail
        go_ret
        rw [HE.out]
        exact ⟨rfl, rfl⟩
      · have HN := Lib.hid (halfI_next (k := 6) (c := 54) (by omega) (by rfl) hH.out hx)
        have hx1 : ((((⟨#[48, 49, 50, 51, 52, 53, 54, 55, 56, 57, 97, 98, 99, 100, 101, 102]⟩ : ByteArray)[6]'(by decide)).toNat : Int) == x) = false := by
          show ((54 : Int) == x) = false
          simp
          omega
        clear hx
        go_wp2_with fail
        exact ⟨⟨7, by omega, by go_num, HN.out⟩, by decide⟩
    · by_cases hx : x = 55
      · subst hx
        have HE := Lib.hid (show halfI 55 = 7 by decide)
        have hx1 : (((⟨#[48, 49, 50, 51, 52, 53, 54, 55, 56, 57, 97, 98, 99, 100, 101, 102]⟩ : ByteArray)[7]'(by decide)).toNat : Int) = 55 := by rfl
        clear hH
        go_wp2_with fail
        go_ret
        rw [HE.out]
        exact ⟨rfl, rfl⟩
      · have HN := Lib.hid (halfI_next (k := 7) (c := 55) (by omega) (by rfl) hH.out hx)
        have hx1 : ((((⟨#[48, 49, 50, 51, 52, 53, 54, 55, 56, 57, 97, 98, 99, 100, 101, 102]⟩ : ByteArray)[7]'(by decide)).toNat : Int) == x) = false := by
          show ((55 : Int) == x) = false
          simp
          omega
        clear hx
        go_wp2_with fail
        exact ⟨⟨8, by omega, by go_num, HN.out⟩, by decide⟩
    · by_cases hx : x = 56
      · subst hx
        have HE := Lib.hid (show halfI 56 = 8 by decide)
        have hx1 : (((⟨#[48, 49, 50, 51, 52, 53, 54, 55, 56, 57, 97, 98, 99, 100, 101, 102]⟩ : ByteArray)[8]'(by decide)).toNat : Int) = 56 := by rfl
        clear hH
        go_wp2_with fail
        go_ret
        rw [HE.out]
        exact ⟨rfl, rfl⟩
      · have HN := Lib.hid (halfI_next (k := 8) (c := 56) (by omega) (by rfl) hH.out hx)
        have hx1 : ((((⟨#[48, 49, 50, 51, 52, 53, 54, 55, 56, 57, 97, 98, 99, 100, 101, 102]⟩ : ByteArray)[8]'(by decide)).toNat : Int) == x) = false := by
          show ((56 : Int) == x) = false
          simp
          omega
        clear hx
        go_wp2_with fail
        exact ⟨⟨9, by omega, by go_num, HN.out⟩, by decide⟩
    · by_cases hx : x = 57
      · subst hx
        have HE := Lib.hid (show halfI 57 = 9 by decide)
        have hx1 : (((⟨#[48, 49, 50, 51, 52, 53, 54, 55, 56, 57, 97, 98, 99, 100, 101, 102]⟩ : ByteArray)[9]'(by decide)).toNat : Int) = 57 := by rfl
        clear hH
        go_wp2_with fail
        go_ret
        rw [HE.out]
        exact ⟨rfl, rfl⟩
      · have HN := Lib.hid (halfI_next (k := 9) (c := 57) (by omega) (by rfl) hH.out hx)
        have hx1 : ((((⟨#[48, 49, 50, 51, 52, 53, 54, 55, 56, 57, 97, 98, 99, 100, 101, 102]⟩ : ByteArray)[9]'(by decide)).toNat : Int) == x) = false := by
          show ((57 : Int) == x) = false
          simp
          omega
        clear hx
        go_wp2_with fail
        exact ⟨⟨10, by omega, by go_num, HN.out⟩, by decide⟩
    · by_cases hx : x = 97
      · subst hx
        have HE := Lib.hid (show halfI 97 = 10 by decide)
        have hx1 : (((⟨#[48, 49, 50, 51, 52, 53, 54, 55, 56, 57, 97, 98, 99, 100, 101, 102]⟩ : ByteArray)[10]'(by decide)).toNat : Int) = 97 := by rfl
        clear hH
        go_wp2_with fail
        go_ret
        rw [HE.out]
        exact ⟨rfl, rfl⟩
      · have HN := Lib.hid (halfI_next (k := 10) (c := 97) (by omega) (by rfl) hH.out hx)
        have hx1 : ((((⟨#[48, 49, 50, 51, 52, 53, 54, 55, 56, 57, 97, 98, 99, 100, 101, 102]⟩ : ByteArray)[10]'(by decide)).toNat : Int) == x) = false := by
          show ((97 : Int) == x) = false
          simp
          omega
        clear hx
        go_wp2_with fail
        exact ⟨⟨11, by omega, by go_num, HN.out⟩, by decide⟩
    · by_cases hx : x = 98
      · subst hx
        have HE := Lib.hid (show halfI 98 = 11 by decide)
        have hx1 : (((⟨#[48, 49, 50, 51, 52, 53, 54, 55, 56, 57, 97, 98, 99, 100, 101, 102]⟩ : ByteArray)[11]'(by decide)).toNat : Int) = 98 := by rfl
        clear hH
        go_wp2_with fail
        go_ret
        rw [HE.out]
        exact ⟨rfl, rfl⟩
      · have HN := Lib.hid (halfI_next (k := 11) (c := 98) (by omega) (by rfl) hH.out hx)
        have hx1 : ((((⟨#[48, 49, 50, 51, 52, 53, 54, 55, 56, 57, 97, 98, 99, 100, 101, 102]⟩ : ByteArray)[11]'(by decide)).toNat : Int) == x) = false := by
          show ((98 : Int) == x) = false
          simp
          omega
        clear hx
        go_wp2_with fail
        exact ⟨⟨12, by omega, by go_num, HN.out⟩, by decide⟩
    · by_cases hx : x = 99
      · subst hx
        have HE := Lib.hid (show halfI 99 = 12 by decide)
        have hx1 : (((⟨#[48, 49, 50, 51, 52, 53, 54, 55, 56, 57, 97, 98, 99, 100, 101, 102]⟩ : ByteArray)[12]'(by decide)).toNat : Int) = 99 := by rfl
        clear hH
        go_wp2_with fail
        go_ret
        rw [HE.out]
        exact ⟨rfl, rfl⟩
      · have HN := Lib.hid (halfI_next (k := 12) (c := 99) (by omega) (by rfl) hH.out hx)
        have hx1 : ((((⟨#[48, 49, 50, 51, 52, 53, 54, 55, 56, 57, 97, 98, 99, 100, 101, 102]⟩ : ByteArray)[12]'(by decide)).toNat : Int) == x) = false := by
          show ((99 : Int) == x) = false
          simp
          omega
        clear hx
        go_wp2_with fail
        exact ⟨⟨13, by omega, by go_num, HN.out⟩, by decide⟩
    · by_cases hx : x = 100
      · subst hx
        have HE := Lib.hid (show halfI 100 = 13 by decide)
        have hx1 : (((⟨#[48, 49, 50, 51, 52, 53, 54, 55, 56, 57, 97, 98, 99, 100, 101, 102]⟩ : ByteArray)[13]'(by decide)).toNat : Int) = 100 := by rfl
        clear hH
        go_wp2_with fail
        go_ret
        rw [HE.out]
        exact ⟨rfl, rfl⟩
      · have HN := Lib.hid (halfI_next (k := 13) (c := 100) (by omega) (by rfl) hH.out hx)
        have hx1 : ((((⟨#[48, 49, 50, 51, 52, 53, 54, 55, 56, 57, 97, 98, 99, 100, 101, 102]⟩ : ByteArray)[13]'(by decide)).toNat : Int) == x) = false := by
          show ((100 : Int) == x) = false
          simp
          omega
        clear hx
        go_wp2_with fail
        exact ⟨⟨14, by omega, by go_num, HN.out⟩, by decide⟩
    · by_cases hx : x = 101
      · subst hx
        have HE := Lib.hid (show halfI 101 = 14 by decide)
        have hx1 : (((⟨#[48, 49, 50, 51, 52, 53, 54, 55, 56, 57, 97, 98, 99, 100, 101, 102]⟩ : ByteArray)[14]'(by decide)).toNat : Int) = 101 := by rfl
        clear hH
        go_wp2_with fail
        go_ret
        rw [HE.out]
        exact ⟨rfl, rfl⟩
      · have HN := Lib.hid (halfI_next (k := 14) (c := 101) (by omega) (by rfl) hH.out hx)
        have hx1 : ((((⟨#[48, 49, 50, 51, 52, 53, 54, 55, 56, 57, 97, 98, 99, 100, 101, 102]⟩ : ByteArray)[14]'(by decide)).toNat : Int) == x) = false := by
          show ((101 : Int) == x) = false
          simp
          omega
        clear hx
        go_wp2_with fail
        exact ⟨⟨15, by omega, by go_num, HN.out⟩, by decide⟩
    · by_cases hx : x = 102
      · subst hx
        have HE := Lib.hid (show halfI 102 = 15 by decide)
        have hx1 : (((⟨#[48, 49, 50, 51, 52, 53, 54, 55, 56, 57, 97, 98, 99, 100, 101, 102]⟩ : ByteArray)[15]'(by decide)).toNat : Int) = 102 := by rfl
        clear hH
        go_wp2_with fail
        go_ret
        rw [HE.out]
        exact ⟨rfl, rfl⟩
      · have HN := Lib.hid (halfI_next (k := 15) (c := 102) (by omega) (by rfl) hH.out hx)
        have hx1 : ((((⟨#[48, 49, 50, 51, 52, 53, 54, 55, 56, 57, 97, 98, 99, 100, 101, 102]⟩ : ByteArray)[15]'(by decide)).toNat : Int) == x) = false := by
          show ((102 : Int) == x) = false
          simp
          omega
        clear hx
        go_wp2_with fail
        exact ⟨⟨16, by omega, by go_num, HN.out⟩, by decide⟩
    · have HE : Hid (halfI x = -1) := (show _ = _ from by rcases halfI_range x with h | h <;> rcases hH.out with h2 | h2 <;> omega)
      go_wp2_with fail
      go_ret
      rw [HE.out]
      exact ⟨rfl, rfl⟩

end Go.Proofs.YtaopohacelmglaaDoor.Nm

/-
  Package names: hexadecimal text, read: plain words.
-/
namespace Go.Proofs.YtaopohacelmglaaDoor.Nm
open Go.RowKit

theorem or_fin : ∀ h l : Fin 16, bits .or .u8 (16 * (h.1 : Int)) (l.1 : Int) = 16 * (h.1 : Int) + (l.1 : Int) := by decide +kernel
theorem u8_or (h l : Int) (h0 : 0 ≤ h) (h1 : h ≤ 15) (l0 : 0 ≤ l) (l1 : l ≤ 15) : bits .or .u8 (16 * h) l = 16 * h + l := by
  obtain ⟨a, rfl⟩ := Int.eq_ofNat_of_zero_le h0
  obtain ⟨b, rfl⟩ := Int.eq_ofNat_of_zero_le l0
  exact or_fin ⟨a, by omega⟩ ⟨b, by omega⟩
/-- The bytes that a text of digits says; none where a half byte says nothing or is left over. -/
def unhexL : List UInt8 → Option (List UInt8)
  | [] => some []
  | [_] => none
  | x :: y :: l => if halfI x.toNat < 0 ∨ halfI y.toNat < 0 then none else (unhexL l).map fun r => UInt8.ofNat (16 * halfI x.toNat + halfI y.toNat).toNat :: r
theorem half_dg : ∀ d : Fin 16, halfI ((dg d.1).toNat : Int) = (d.1 : Int) := by decide +kernel
theorem unhex_hex (l : List UInt8) : unhexL (hexL l) = some l := by
  induction l with
  | nil => rfl
  | cons x l ih =>
    have hx := x.toNat_lt
    have h1 := half_dg ⟨x.toNat / 16, by omega⟩
    have h2 := half_dg ⟨x.toNat % 16, by omega⟩
    dsimp only at h1 h2
    show unhexL (dg (x.toNat / 16) :: dg (x.toNat % 16) :: hexL l) = _
    rw [unhexL, h1, h2, if_neg (by omega), ih]
    simp only [Option.map_some, Option.some.injEq, List.cons.injEq, and_true]
    have e : (16 * ((x.toNat / 16 : Nat) : Int) + ((x.toNat % 16 : Nat) : Int)).toNat = x.toNat := by omega
    rw [e, UInt8.ofNat_toNat]

end Go.Proofs.YtaopohacelmglaaDoor.Nm

/-
  Package names: Unhex.
-/
namespace Go.Proofs.YtaopohacelmglaaDoor.Nm
open Go.RowKit

/-- The bytes of the first k digits, and half a byte left over. -/
def pairL : List UInt8 → List UInt8
  | x :: y :: l => UInt8.ofNat (16 * halfI x.toNat + halfI y.toNat).toNat :: pairL l
  | _ => []
theorem pairL_length : ∀ l : List UInt8, (pairL l).length = l.length / 2
  | [] => rfl
  | [_] => by simp [pairL]
  | x :: y :: l => by
    simp only [pairL, List.length_cons, pairL_length l]
    omega
theorem pairL_snoc : ∀ (l : List UInt8) (x y : UInt8), l.length % 2 = 0 → pairL (l ++ [x, y]) = pairL l ++ [UInt8.ofNat (16 * halfI x.toNat + halfI y.toNat).toNat]
  | [], _, _, _ => rfl
  | [_], _, _, h => by simp at h
  | a :: b :: l, x, y, h => by
    simp only [List.cons_append, pairL, pairL_snoc l x y (by simp at h; omega)]
theorem unhexL_pair : ∀ l : List UInt8, unhexL l = if (∀ x ∈ l, 0 ≤ halfI x.toNat) ∧ l.length % 2 = 0 then some (pairL l) else none
  | [] => by simp [unhexL, pairL]
  | [_] => by simp [unhexL]
  | x :: y :: l => by
    rw [unhexL, unhexL_pair l]
    by_cases h : halfI x.toNat < 0 ∨ halfI y.toNat < 0
    · rw [if_pos h, if_neg]
      rintro ⟨h1, _⟩
      have := h1 x (by simp)
      have := h1 y (by simp)
      omega
    · rw [if_neg h]
      have e : (∀ z ∈ x :: y :: l, 0 ≤ halfI z.toNat) ∧ (x :: y :: l).length % 2 = 0 ↔ (∀ z ∈ l, 0 ≤ halfI z.toNat) ∧ l.length % 2 = 0 := by
        simp only [List.mem_cons, forall_eq_or_imp, List.length_cons]
        constructor
        · rintro ⟨⟨_, _, q⟩, r⟩
          exact ⟨q, by omega⟩
        · rintro ⟨q, r⟩
          exact ⟨⟨by omega, by omega, q⟩, by omega⟩
      simp only [e]
      split
      · simp [pairL]
      · simp

end Go.Proofs.YtaopohacelmglaaDoor.Nm

/-
  Package names: Number.
-/
namespace Go.Proofs.YtaopohacelmglaaDoor.Nm
open Go.RowKit

def digS (s : ByteArray) : Prop := ∀ k (hk : k < s.size), 48 ≤ (s[k].toNat : Int) ∧ (s[k].toNat : Int) ≤ 57
def zeroS (s : ByteArray) : Prop := ∃ h : 0 < s.size, (s[0].toNat : Int) = 48 ∧ 1 < s.size
/-- The value of the first k digits. -/
def valS (s : ByteArray) : Nat → Nat
  | 0 => 0
  | k + 1 => if h : k < s.size then 10 * valS s k + (s[k].toNat - 48) else valS s k
theorem valS_le (s : ByteArray) (a b : Nat) (h : a ≤ b) : valS s a ≤ valS s b := by
  induction b with
  | zero => exact (by omega : a = 0) ▸ Nat.le_refl _
  | succ b ih =>
    by_cases e : a = b + 1
    · subst e
      exact Nat.le_refl _
    · refine Nat.le_trans (ih (by omega)) ?_
      rw [valS]
      split <;> omega
open Classical in
noncomputable def numR (s : ByteArray) : Int × Int := if digS s ∧ 0 < s.size ∧ ¬ zeroS s then (if valS s s.size < 9223372036854775808 then ((valS s s.size : Int), 0) else (0, 2)) else (0, 4)
theorem numR_bad {s : ByteArray} (h : ¬ (digS s ∧ 0 < s.size ∧ ¬ zeroS s)) : numR s = (0, 4) := if_neg h
theorem numR_long {s : ByteArray} (h : digS s ∧ 0 < s.size ∧ ¬ zeroS s) (h2 : ¬ valS s s.size < 9223372036854775808) : numR s = (0, 2) := (if_pos h).trans (if_neg h2)
theorem numR_good {s : ByteArray} (h : digS s ∧ 0 < s.size ∧ ¬ zeroS s) (h2 : valS s s.size < 9223372036854775808) : numR s = ((valS s s.size : Int), 0) := (if_pos h).trans (if_pos h2)
theorem empty_ne (s : ByteArray) (h : 0 < s.size) : s.toList.isEmpty = false := by
  rw [ByteArray.toList_eq, Bool.eq_false_iff]
  intro e
  have e2 : s.data.toList = [] := by simpa using e
  have e3 : s.data.toList.length = 0 := by rw [e2]; rfl
  have e4 : s.size = s.data.toList.length := by simp
  omega
theorem empty_eq (s : ByteArray) (h : ¬ 0 < s.size) : s = ⟨#[]⟩ := by
  apply ByteArray.ext
  exact Array.eq_empty_of_size_eq_zero (by simpa using h)

set_option maxRecDepth 20000 in
set_option maxHeartbeats 1000000 in
theorem Number_any (s : ByteArray) (hm : (s.size : Int) ≤ 4096) (w : World) : Calls Tryd.prog 44 #[.string s] w fun e w' => e = .returned (.tuple #[.int .i64 (numR s).1, .int .i64 (numR s).2]) ∧ w = w' := by
  go_enter Tryd.func44, Tryd.ntmps44
  go_wp2_with fail
  go_loop [10] (fun i => ∃ k : Nat, k ≤ s.size ∧ i = .int .i64 k ∧ Hid (∀ j (hj : j < s.size), j < k → 48 ≤ (s[j].toNat : Int) ∧ (s[j].toNat : Int) ≤ 57)) (fun i => s.size - (intOf i).toNat)
  case atStart => exact ⟨0, by omega, rfl, (show ∀ j (hj : j < s.size), j < 0 → _ from fun j _ h => absurd h (Nat.not_lt_zero j))⟩
  case round =>
    obtain ⟨k, hk, rfl, hH⟩ := hrel
    by_cases hlt : k < s.size
    · have HS : Hid (48 ≤ (s[k].toNat : Int) ∧ (s[k].toNat : Int) ≤ 57 → ∀ j (hj : j < s.size), j < k + 1 → 48 ≤ (s[j].toNat : Int) ∧ (s[j].toNat : Int) ≤ 57) := by
        show _ → _
        intro h j hj hjk
        by_cases e : j = k
        · subst e
          exact h
        · exact hH.out j hj (by omega)
      have HN : Hid (¬ (48 ≤ (s[k].toNat : Int) ∧ (s[k].toNat : Int) ≤ 57) → numR s = (0, 4)) := by
        show _ → _
        exact fun h => numR_bad fun h2 => h (h2.1 k hlt)
      by_cases c1 : (s[k].toNat : Int) < 48
      · have HN2 := Lib.hid (HN.out (by omega))
        clear HN HS
        go_wp2_with fail
        go_ret2
        rw [HN2.out]
        exact ⟨rfl, rfl⟩
      by_cases c2 : 57 < (s[k].toNat : Int)
      · have HN2 := Lib.hid (HN.out (by omega))
        clear HN HS
        have c1' : decide ((s[k].toNat : Int) < 48) = false := by simpa using c1
        clear c1
        go_wp2_with fail
        go_ret2
        rw [HN2.out]
        exact ⟨rfl, rfl⟩
      have c1' : 48 ≤ (s[k].toNat : Int) := by omega
      have c2' : (s[k].toNat : Int) ≤ 57 := by omega
      have HS2 := Lib.hid (HS.out ⟨c1', c2'⟩)
      clear c1 c2 HS HN
      go_wp2_with fail
      exact ⟨⟨k + 1, by omega, by go_num, HS2.out⟩, by simp [intOf]; omega⟩
    · have hdig : digS s := fun j hj => hH.out j hj (by omega)
      clear hH
      by_cases h0 : 0 < s.size
      · have he := empty_ne s h0
        by_cases hz : (s[0].toNat : Int) = 48
        · by_cases h1 : 1 < s.size
          · have HN2 := Lib.hid (numR_bad (s := s) fun h => h.2.2 ⟨h0, hz, h1⟩)
            have hz' : ((s[0].toNat : Int) == 48) = true := by simpa using hz
            have h1' : (1 : Int) < s.size := by omega
            clear hdig hz
            go_wp2_with fail
            go_ret2
            rw [HN2.out]
            exact ⟨rfl, rfl⟩
          · skip
            have hnz : ¬ zeroS s := fun h => h1 h.2.2
            have hz' : ((s[0].toNat : Int) == 48) = true := by simpa using hz
            have h1' : (s.size : Int) ≤ 1 := by omega
            have HD := Lib.hid (And.intro hdig (And.intro h0 hnz))
            clear hdig hz h1 hnz
            go_wp2_with fail
            go_loop [5, 38] (fun n i => ∃ k N : Nat, k ≤ s.size ∧ n = .int .i64 N ∧ i = .int .i64 k ∧ Hid (valS s k = N) ∧ (N : Int) ≤ 9223372036854775807) (fun _ i => s.size - (intOf i).toNat)
            case atStart => exact ⟨0, 0, by omega, rfl, rfl, rfl, by omega⟩
            case round =>
              obtain ⟨k, N, hk, rfl, rfl, hV, hN⟩ := hrel
              have hN0 : (0 : Int) ≤ N := by omega
              by_cases hlt : k < s.size
              · have hd := HD.out.1 k hlt
                have hstep : valS s (k + 1) = 10 * N + (s[k].toNat - 48) := by
                  rw [valS, dif_pos hlt, hV.out]
                have hle := valS_le s (k + 1) s.size (by omega)
                obtain ⟨d, hdd⟩ : ∃ d, s[k].toNat - 48 = d := ⟨_, rfl⟩
                rw [hdd] at hstep
                have hX : (s[k].toNat : Int) = 48 + (d : Int) := by omega
                have hd9 : (d : Int) ≤ 9 := by omega
                by_cases ho : (9223372036854775807 - (d : Int)) / 10 < (N : Int)
                · have HR := Lib.hid (numR_long (s := s) HD.out (by omega))
                  clear hle hstep hV hd hdd
                  go_wp2_with fail
                  go_ret2
                  rw [HR.out]
                  exact ⟨rfl, rfl⟩
                · have ho1 : 10 * (N : Int) + (d : Int) ≤ 9223372036854775807 := by omega
                  have ho2 : 10 * (N : Int) ≤ 9223372036854775807 := by omega
                  have ho3 : decide ((9223372036854775807 - (d : Int)) / 10 < (N : Int)) = false := by simpa using ho
                  have HS := Lib.hid hstep
                  clear hle hstep hV hd hdd ho
                  go_wp2_with fail
                  exact ⟨⟨k + 1, 10 * N + d, by omega, by go_num, by go_num, HS.out, by omega⟩, by simp [intOf]; omega⟩
              · have e : k = s.size := by omega
                subst e
                have HR := Lib.hid (numR_good (s := s) HD.out (by have := hV.out; omega))
                have hV2 := hV.out
                rw [hV2] at HR
                have HR2 := Lib.hid HR.out
                clear HR hV hV2
                go_wp2_with fail
                go_ret2
                rw [HR2.out]
                exact ⟨rfl, rfl⟩
        · skip
          have hnz : ¬ zeroS s := fun h => hz h.2.1
          have hz' : ((s[0].toNat : Int) == 48) = false := by simpa using hz
          have HD := Lib.hid (And.intro hdig (And.intro h0 hnz))
          clear hdig hz hnz
          go_wp2_with fail
          go_loop [5, 38] (fun n i => ∃ k N : Nat, k ≤ s.size ∧ n = .int .i64 N ∧ i = .int .i64 k ∧ Hid (valS s k = N) ∧ (N : Int) ≤ 9223372036854775807) (fun _ i => s.size - (intOf i).toNat)
          case atStart => exact ⟨0, 0, by omega, rfl, rfl, rfl, by omega⟩
          case round =>
            obtain ⟨k, N, hk, rfl, rfl, hV, hN⟩ := hrel
            have hN0 : (0 : Int) ≤ N := by omega
            by_cases hlt : k < s.size
            · have hd := HD.out.1 k hlt
              have hstep : valS s (k + 1) = 10 * N + (s[k].toNat - 48) := by
                rw [valS, dif_pos hlt, hV.out]
              have hle := valS_le s (k + 1) s.size (by omega)
              obtain ⟨d, hdd⟩ : ∃ d, s[k].toNat - 48 = d := ⟨_, rfl⟩
              rw [hdd] at hstep
              have hX : (s[k].toNat : Int) = 48 + (d : Int) := by omega
              have hd9 : (d : Int) ≤ 9 := by omega
              by_cases ho : (9223372036854775807 - (d : Int)) / 10 < (N : Int)
              · have HR := Lib.hid (numR_long (s := s) HD.out (by omega))
                clear hle hstep hV hd hdd
                go_wp2_with fail
                go_ret2
                rw [HR.out]
                exact ⟨rfl, rfl⟩
              · have ho1 : 10 * (N : Int) + (d : Int) ≤ 9223372036854775807 := by omega
                have ho2 : 10 * (N : Int) ≤ 9223372036854775807 := by omega
                have ho3 : decide ((9223372036854775807 - (d : Int)) / 10 < (N : Int)) = false := by simpa using ho
                have HS := Lib.hid hstep
                clear hle hstep hV hd hdd ho
                go_wp2_with fail
                exact ⟨⟨k + 1, 10 * N + d, by omega, by go_num, by go_num, HS.out, by omega⟩, by simp [intOf]; omega⟩
            · have e : k = s.size := by omega
              subst e
              have HR := Lib.hid (numR_good (s := s) HD.out (by have := hV.out; omega))
              have hV2 := hV.out
              rw [hV2] at HR
              have HR2 := Lib.hid HR.out
              clear HR hV hV2
              go_wp2_with fail
              go_ret2
              rw [HR2.out]
              exact ⟨rfl, rfl⟩
      · have HN2 := Lib.hid (numR_bad (s := s) fun h => h0 h.2.1)
        obtain rfl := empty_eq s h0
        clear hdig
        go_wp2_with fail
        go_ret2
        rw [HN2.out]
        exact ⟨rfl, rfl⟩

end Go.Proofs.YtaopohacelmglaaDoor.Nm

/-
  Package names: Unhex.
-/
namespace Go.Proofs.YtaopohacelmglaaDoor.Nm
open Go.RowKit

def hexS (s : ByteArray) : Prop := ∀ k (hk : k < s.size), 0 ≤ halfI (s[k].toNat : Int)
open Classical in
/-- What Unhex answers: the bytes, the error. -/
noncomputable def uxR (s : ByteArray) : List UInt8 × Int := if hexS s ∧ s.size % 2 = 0 then (pairL s.data.toList, 0) else ([], 4)
theorem uxR_no {s : ByteArray} (h : ¬ (hexS s ∧ s.size % 2 = 0)) : uxR s = ([], 4) := if_neg h
theorem uxR_yes {s : ByteArray} (h : hexS s ∧ s.size % 2 = 0) : uxR s = (pairL s.data.toList, 0) := if_pos h
theorem uxR_len (s : ByteArray) : (uxR s).1.length ≤ s.size / 2 := by
  by_cases h : hexS s ∧ s.size % 2 = 0
  · rw [uxR_yes h]
    dsimp only
    rw [pairL_length]
    exact Nat.le_refl _
  · rw [uxR_no h]
    exact Nat.zero_le _
theorem pairL_odd : ∀ (l : List UInt8) (x : UInt8), l.length % 2 = 0 → pairL (l ++ [x]) = pairL l
  | [], _, _ => rfl
  | [_], _, h => by simp at h
  | a :: b :: l, x, h => by
    simp only [List.cons_append, pairL, pairL_odd l x (by simp at h; omega)]
theorem bytes_take (s : ByteArray) (k : Nat) (h : k < s.size) : s.data.toList.take (k + 1) = s.data.toList.take k ++ [s[k]] := by
  rw [List.take_succ_eq_append_getElem (by simpa using h)]; rfl
theorem take_len (s : ByteArray) (k : Nat) (h : k ≤ s.size) : (s.data.toList.take k).length = k := by
  rw [List.length_take]
  have : s.data.toList.length = s.size := by simp
  omega
/-- The bytes of the first k digits. -/
def pT (s : ByteArray) (k : Nat) : List UInt8 := pairL (s.data.toList.take k)
theorem pT_even {s : ByteArray} {k : Nat} (h : k < s.size) (he : k % 2 = 0) : pT s (k + 1) = pT s k := by
  unfold pT
  rw [bytes_take s k h, pairL_odd _ _ (by rw [take_len s k (by omega)]; exact he)]
theorem pT_odd {s : ByteArray} {k : Nat} (h : k < s.size) (he : k % 2 = 1) : pT s (k + 1) = pT s k ++ [UInt8.ofNat (16 * halfI (s[k - 1].toNat) + halfI (s[k].toNat)).toNat] := by
  obtain ⟨j, rfl⟩ : ∃ j, k = j + 1 := ⟨k - 1, by omega⟩
  rw [pT_even (k := j) (by omega) (by omega)]
  unfold pT
  rw [bytes_take s (j + 1) h, bytes_take s j (by omega), List.append_assoc]
  exact pairL_snoc _ _ _ (by rw [take_len s j (by omega)]; omega)
theorem pT_all (s : ByteArray) : pT s s.size = pairL s.data.toList := by
  unfold pT
  rw [List.take_of_length_le (by simp)]
theorem pT_len (s : ByteArray) (k : Nat) (h : k ≤ s.size) : (pT s k).length = k / 2 := by
  unfold pT
  rw [pairL_length, take_len s k h]
theorem i64_and1 (k : Int) (h0 : 0 ≤ k) (h1 : k ≤ 9223372036854775807) : bits .and .i64 k 1 = k % 2 := by
  obtain ⟨K, rfl⟩ := Int.eq_ofNat_of_zero_le h0
  have := i64_and_nat K 1 (by omega) (by omega)
  rw [nat_mask1] at this
  exact this.trans (by omega)
theorem half_le (x : Int) : -1 ≤ halfI x ∧ halfI x ≤ 15 := by
  rcases halfI_range x with h | h <;> omega
theorem byte_pair (a b : Int) (a0 : 0 ≤ a) (a1 : a ≤ 15) (b0 : 0 ≤ b) (b1 : b ≤ 15) : b8 (UInt8.ofNat (16 * a + b).toNat) = .int .u8 (16 * a + b) := by
  rw [b8_ofNat]
  congr 1
  omega

set_option maxRecDepth 20000 in
set_option maxHeartbeats 2000000 in
theorem Unhex_any (s : ByteArray) (hm : (s.size : Int) ≤ 1073741824) (w : World) : Calls Tryd.prog 41 #[.string s] w fun e w' => ∃ A n c, e = .returned (.tuple #[.slice A n c, .int .i64 (uxR s).2]) ∧ Own w' w.heap.size 5 1 A n c ((uxR s).1.map b8) ∧ Below w.heap.size w w' := by
  go_enter Tryd.func41, Tryd.ntmps41
  go_wp2_with (at_make
               refine wpList_mk rfl _ _ rfl eb rfl rfl 0 (s.size / 2) (by omega) (by omega) (by omega) (by omega) (by unfold maxLen; omega) (Nat.le_refl _) ?_
               intro w1 ho1 hg1 hz1)
  clear hz1
  go_loopw [4, 5, 15] (fun v hv i wr => ∃ (k n : Nat) (A : Option Addr) (c : Nat) (h : Int), k ≤ s.size ∧ i = .int .i64 k ∧ v = .slice A n c ∧ hv = .int .u8 h ∧ 0 ≤ h ∧ h ≤ 255 ∧ Own wr w.heap.size 5 1 A n c ((pT s k).map b8) ∧ Below w.heap.size w wr ∧ Hid (∀ j (hj : j < s.size), j < k → 0 ≤ halfI (s[j].toNat : Int)) ∧ Hid (k % 2 = 1 → ∀ h1 : k - 1 < s.size, h = 16 * halfI (s[k - 1].toNat : Int))) (fun _ _ i _ => s.size - (intOf i).toNat)
  case atStart =>
    refine ⟨0, 0, _, _, 0, by omega, rfl, rfl, rfl, by omega, by omega, by simpa [madeCells, pT, pairL] using ho1, (Below.refl _ _).grown hg1 (Nat.le_refl _) (by simp), (show ∀ j (hj : j < s.size), j < 0 → _ from fun j _ h => absurd h (Nat.not_lt_zero j)), ?_⟩
    show _ → _
    intro h
    omega
  case round =>
    obtain ⟨k, n, A, c, h, hk, rfl, rfl, rfl, h0, h255, ho, hb, hH, hP⟩ := hrel
    by_cases hlt : k < s.size
    · have hB := hb.size
      have hn := ho.lenb
      rw [pT_len s k hk] at hn
      obtain ⟨x, hx⟩ : ∃ x, (s[k].toNat : Int) = x := ⟨_, rfl⟩
      have hx0 : 0 ≤ x := by omega
      have hx1 : x ≤ 255 := by have := s[k].toNat_lt; omega
      have hnext : 0 ≤ halfI x → ∀ j (hj : j < s.size), j < k + 1 → 0 ≤ halfI (s[j].toNat : Int) := by
        intro h1 j hj hjk
        by_cases e : j = k
        · subst e
          rw [hx]
          exact h1
        · exact hH.out j hj (by omega)
      rcases halfI_range x with hI | ⟨hI, hI2⟩
      · have HC := Lib.hid (half_any x hx0 hx1)
        have HE := Lib.hid (half_no hI)
        have HU := Lib.hid (uxR_no (s := s) fun h2 => by have := h2.1 k hlt; rw [hx] at this; omega)
        clear hnext hI hP hH
        go_wp2_with fail
        refine (HC.out _).mono ?_
        rintro e w9 ⟨rfl, rfl⟩
        rw [HE.out.1, HE.out.2]
        go_wp2_with fail
        go_ret2
        rw [HU.out]
        exact ⟨_, _, _, rfl, Own.nil_ _ _ _ _, hb⟩
      · obtain ⟨v, hv⟩ : ∃ v, halfI x = v := ⟨_, rfl⟩
        have HC := Lib.hid (half_any x hx0 hx1)
        have HE := Lib.hid (half_yes hv (by omega))
        have HN := Lib.hid (hnext hI)
        have HX := Lib.hid hx
        have HV := Lib.hid hv
        have ha1 := i64_and1 (k : Int) (by omega) (by omega)
        rw [hv] at hI hI2
        have hH2 := Lib.hid hH.out
        clear hnext hv hH
        by_cases hev : k % 2 = 0
        · have hev' : (k : Int) % 2 = 0 := by omega
          have HO := Lib.hid (pT_even hlt hev)
          clear hev hP hH2
          go_wp2_with fail
          refine (HC.out _).mono ?_
          rintro e w9 ⟨rfl, rfl⟩
          rw [HE.out.1, HE.out.2]
          go_wp2_with fail
          refine ⟨⟨k + 1, n, A, c, v * 16, by omega, by go_num, rfl, rfl, by omega, by omega, by rw [HO.out]; exact ho, hb, HN.out, ?_⟩, by simp [intOf]; omega⟩
          show _ → ∀ _, _
          intro _ h1
          simp only [Nat.add_sub_cancel] at h1 ⊢
          rw [HX.out, HV.out]
          omega
        · have hev' : (k : Int) % 2 = 1 := by omega
          obtain ⟨a, ha⟩ : ∃ a, halfI (s[k - 1].toNat : Int) = a := ⟨_, rfl⟩
          have hae := hP.out (by omega) (by omega)
          have ha15 := half_le (s[k - 1].toNat : Int)
          have ha0 : 0 ≤ halfI (s[k - 1].toNat : Int) := hH2.out (k - 1) (by omega) (by omega)
          rw [ha] at hae ha15 ha0
          have hor : bits .or .u8 h v = 16 * a + v := by
            rw [hae]
            exact u8_or a v (by omega) (by omega) (by omega) (by omega)
          have hst := pT_odd hlt (by omega)
          rw [hx, HV.out, ha] at hst
          have HO := Lib.hid hst
          have hbp := byte_pair a v (by omega) (by omega) (by omega) (by omega)
          have HBP := Lib.hid hbp
          have hav : 0 ≤ 16 * a + v := by omega
          have hav2 : 16 * a + v ≤ 255 := by omega
          clear hev hst hbp ha hae hP hH2
          go_wp2_with fail
          refine (HC.out _).mono ?_
          rintro e w9 ⟨rfl, rfl⟩
          rw [HE.out.1, HE.out.2]
          go_wp2_with (at_builtin; refine wpList_app rfl _ _ rfl eb (ho.alloc _) rfl (Rd.lit _ [_] _ 1 rfl (by decide)) rfl (by simp [Value.oneCell']) (by omega) (by unfold maxLen; omega) (by simp; omega) ?_; intro A2 c2 w2 ho2 hg2 hb2)
          go_roundw
          case rel =>
            refine ⟨k + 1, _, A2, c2, h, by omega, by go_num, rfl, rfl, h0, h255, ?_, ?_, HN.out, ?_⟩
            · rw [HO.out]
              simpa [HBP.out] using ho2
            · exact (hb.alloc hB _).grown hg2 (by simp; omega) (by intro g hg; exact (ho.lt g hg).1)
            · show _ → ∀ _, _
              omega
          case measure => simp [intOf]; omega
    · have e : k = s.size := by omega
      subst e
      have ha1 := i64_and1 (s.size : Int) (by omega) (by omega)
      by_cases hev : s.size % 2 = 0
      · have hU := uxR_yes (s := s) ⟨fun j hj => hH.out j hj hj, hev⟩
        have HU := Lib.hid hU
        have HPA := Lib.hid (pT_all s)
        have hev' : (s.size : Int) % 2 = 0 := by omega
        clear hev hU hH hP
        go_wp2_with fail
        go_ret2
        rw [HU.out]
        exact ⟨_, _, _, rfl, by rw [HPA.out] at ho; exact ho, hb⟩
      · have HU := Lib.hid (uxR_no (s := s) fun h2 => hev h2.2)
        have hev' : (s.size : Int) % 2 = 1 := by omega
        clear hev hH hP
        go_wp2_with fail
        go_ret2
        rw [HU.out]
        exact ⟨_, _, _, rfl, Own.nil_ _ _ _ _, hb⟩

end Go.Proofs.YtaopohacelmglaaDoor.Nm

/-
  Package names: the document's Unhex.
-/
namespace Go.Proofs.YtaopohacelmglaaDoor.Nm
open Go.RowKit

set_option maxRecDepth 20000 in
set_option maxHeartbeats 2000000 in
theorem RUnhex_any (s : ByteArray) (hm : (s.size : Int) ≤ 1073741824) (w : World) : Calls Tryd.prog 33 #[.string s] w fun e w' => ∃ A n c, e = .returned (.tuple #[.slice A n c, .int .i64 (uxR s).2]) ∧ Own w' w.heap.size 5 1 A n c ((uxR s).1.map b8) ∧ Below w.heap.size w w' := by
  go_enter Tryd.func33, Tryd.ntmps33
  go_wp2_with fail
  go_loopw [4, 5] (fun v i wr => ∃ (k n : Nat) (A : Option Addr) (c : Nat), k ≤ s.size ∧ i = .int .i64 k ∧ v = .slice A n c ∧ Own wr w.heap.size 5 1 A n c ((pT s k).map b8) ∧ Below w.heap.size w wr ∧ Hid (∀ j (hj : j < s.size), j < k → 0 ≤ halfI (s[j].toNat : Int))) (fun _ i _ => s.size - (intOf i).toNat)
  case atStart =>
    refine ⟨0, 0, _, _, by omega, rfl, rfl, Own.new _ _ _ _ _ _ (Nat.le_refl _) (Nat.le_refl _) (Nat.zero_le _) (by simp [pT, pairL]) (by simp) (by simp [pT, pairL]) (by simp), (Below.refl _ _).alloc (Nat.le_refl _) _, (show ∀ j (hj : j < s.size), j < 0 → _ from fun j _ h => absurd h (Nat.not_lt_zero j))⟩
  case round =>
    obtain ⟨k, n, A, c, hk, rfl, rfl, ho, hb, hH⟩ := hrel
    by_cases hlt : k < s.size
    · have hB := hb.size
      have hn := ho.lenb
      rw [pT_len s k hk] at hn
      obtain ⟨x, hx⟩ : ∃ x, (s[k].toNat : Int) = x := ⟨_, rfl⟩
      have hx0 : 0 ≤ x := by omega
      have hx1 : x ≤ 255 := by have := s[k].toNat_lt; omega
      obtain ⟨v, hv⟩ : ∃ v, halfI x = v := ⟨_, rfl⟩
      have HC := Lib.hid (RDigit_any x hx0 hx1)
      rw [hv] at HC
      rcases halfI_range x with hI | ⟨hI, hI2⟩
      · have HU := Lib.hid (uxR_no (s := s) fun h2 => by have := h2.1 k hlt; rw [hx] at this; omega)
        obtain rfl : v = -1 := by omega
        clear hI hH hv
        go_wp2_with fail
        refine (HC.out _).mono ?_
        rintro e w9 ⟨rfl, rfl⟩
        go_wp2_with fail
        go_ret2
        rw [HU.out]
        exact ⟨_, _, _, rfl, Own.nil_ _ _ _ _, hb⟩
      · have hnext : ∀ j (hj : j < s.size), j < k + 1 → 0 ≤ halfI (s[j].toNat : Int) := by
          intro j hj hjk
          by_cases e : j = k
          · subst e
            rw [hx]
            exact hI
          · exact hH.out j hj (by omega)
        have HN := Lib.hid hnext
        have HX := Lib.hid hx
        have HV := Lib.hid hv
        have HD := HC
        rw [hv] at hI hI2
        have hH2 := Lib.hid hH.out
        clear hnext hv hH
        by_cases hev : k % 2 = 0
        · have hev' : (k : Int) % 2 = 0 := by omega
          have HO := Lib.hid (pT_even hlt hev)
          clear hev hH2 HD
          go_wp2_with fail
          refine (HC.out _).mono ?_
          rintro e w9 ⟨rfl, rfl⟩
          go_wp2_with fail
          exact ⟨⟨k + 1, n, A, c, by omega, by go_num, rfl, by rw [HO.out]; exact ho, hb, HN.out⟩, by simp [intOf]; omega⟩
        · have hod : k % 2 = 1 := by omega
          obtain ⟨j, rfl⟩ : ∃ j, k = j + 1 := ⟨k - 1, by omega⟩
          have hev' : ((j : Int) + 1) % 2 = 1 := by omega
          obtain ⟨y, hy⟩ : ∃ y, (s[j].toNat : Int) = y := ⟨_, rfl⟩
          have hy0 : 0 ≤ y := by omega
          have hy1 : y ≤ 255 := by have := s[j].toNat_lt; omega
          obtain ⟨a, ha⟩ : ∃ a, halfI y = a := ⟨_, rfl⟩
          have ha15 := half_le y
          have ha0 := hH2.out j (by omega) (by omega)
          rw [hy, ha] at ha0
          rw [ha] at ha15
          have HDa := Lib.hid (RDigit_any y hy0 hy1)
          rw [ha] at HDa
          have hst := pT_odd hlt hod
          simp only [Nat.add_sub_cancel] at hst
          rw [hx, hy, HV.out, ha] at hst
          have HO := Lib.hid hst
          have HBP := Lib.hid (byte_pair a v (by omega) (by omega) (by omega) (by omega))
          have hav : 0 ≤ 16 * a + v := by omega
          have hav2 : 16 * a + v ≤ 255 := by omega
          have hjl : j < s.size := by omega
          have hw1 : IntKind.i64.wrap (j : Int) = j := IntWalk.i64_in _ (by omega)
          have hw2 : IntKind.i64.wrap (16 * a) = 16 * a := IntWalk.i64_in _ (by omega)
          have hw3 : IntKind.i64.wrap (16 * a + v) = 16 * a + v := IntWalk.i64_in _ (by omega)
          have hw4 : IntKind.u8.wrap (16 * a + v) = 16 * a + v := by rw [IntKind.wrap_u8]; omega
          have hj1 : (0 : Int) ≤ (j : Int) + 1 := by omega
          clear hev hst ha hH2 hod
          go_wp2_with fail
          refine (HC.out _).mono ?_
          rintro e w9 ⟨rfl, rfl⟩
          go_wp2_with fail
          refine wp_region_mixg (mixL 16 [13, 14]) (fun _ => True) (by kernel_rfl) (by kernel_rfl) (by rfl) (by kernel_rfl) (fun _ _ _ _ _ h => h) trivial ?_
          iterate 5 (refine mixc_read (o := ⟨_, _, _, _, _, _⟩) (by rfl) (by rfl) ?_; go_big_quiet_step (fail); refine wpQuiet_nil ?_)
          refine mixc_quiet (o := ⟨_, _, _, _, _, _⟩) (by rfl) (by rfl) (.int .i64 a) (fun W => by go_simp) (fun w' _ => HDa.out w') ?_
          simp only [Act.put, List.setIfInBounds_toArray, List.set_cons_succ, List.set_cons_zero]
          iterate 4 (refine mixc_read (o := ⟨_, _, _, _, _, _⟩) (by rfl) (by rfl) ?_; go_big_quiet_step (fail); refine wpQuiet_nil ?_)
          refine mixc_quiet (o := ⟨_, _, _, _, _, _⟩) (by rfl) (by rfl) (.int .i64 v) (fun W => by go_simp) (fun w' _ => HD.out w') ?_
          simp only [Act.put, List.setIfInBounds_toArray, List.set_cons_succ, List.set_cons_zero]
          iterate 2 (refine mixc_read (o := ⟨_, _, _, _, _, _⟩) (by rfl) (by rfl) ?_; go_big_quiet_step (fail); refine wpQuiet_nil ?_)
          refine mixc_one (o := ⟨_, _, _, _, _, _⟩) (by rfl) (fun K hK => ?_)
          go_wp2_with fail
          refine hK _ _ trivial ?_
          clear hK
          refine mixc_one (o := ⟨_, _, _, _, _, _⟩) (by rfl) (fun K hK => ?_)
          go_wp2_with (at_builtin; refine wpList_app rfl _ _ rfl eb (ho.alloc _).drew rfl (Rd.lit _ [_] _ 1 rfl (by decide)).drew rfl (by simp [Value.oneCell']) (by omega) (by unfold maxLen; omega) (by simp; omega) ?_; intro A2 c2 w2 ho2 hg2 hb2)
          refine hK _ _ trivial ?_
          clear hK
          refine mixc_read (o := ⟨_, _, _, _, _, _⟩) (by rfl) (by rfl) ?_
          go_big_quiet_step (fail)
          refine wpQuiet_nil ?_
          refine mixc_done ?_
          go_wp2_with fail
          trace_state
          go_roundw
          case rel =>
            refine ⟨j + 1 + 1, _, A2, c2, by omega, by go_num, rfl, ?_, ?_, HN.out⟩
            · rw [HO.out]
              simpa [HBP.out] using ho2
            · exact (hb.alloc hB _).drew.grown hg2 (by simp; omega) (by intro g hg; exact (ho.lt g hg).1)
          case measure => simp [intOf]; omega
    · have e : k = s.size := by omega
      subst e
      by_cases hev : s.size % 2 = 0
      · have HU := Lib.hid (uxR_yes (s := s) ⟨fun j hj => hH.out j hj hj, hev⟩)
        have HPA := Lib.hid (pT_all s)
        have hev' : (s.size : Int) % 2 = 0 := by omega
        clear hev hH
        go_wp2_with fail
        go_ret2
        rw [HU.out]
        exact ⟨_, _, _, rfl, by rw [HPA.out] at ho; exact ho, hb⟩
      · have HU := Lib.hid (uxR_no (s := s) fun h2 => hev h2.2)
        have hev' : (s.size : Int) % 2 = 1 := by omega
        clear hev hH
        go_wp2_with fail
        go_ret2
        rw [HU.out]
        exact ⟨_, _, _, rfl, Own.nil_ _ _ _ _, hb⟩

end Go.Proofs.YtaopohacelmglaaDoor.Nm

/-
  Package names: ID.
-/
namespace Go.Proofs.YtaopohacelmglaaDoor.Nm
open Go.RowKit

/-- What ID answers. -/
noncomputable def idR (s : ByteArray) : List UInt8 × Int := if (uxR s).2 = 0 then (if (uxR s).1.length = 32 then ((uxR s).1, 0) else (zid, 9)) else (zid, (uxR s).2)
theorem idR_no {s : ByteArray} (h : (uxR s).2 ≠ 0) : idR s = (zid, (uxR s).2) := if_neg h
theorem idR_size {s : ByteArray} (h : (uxR s).2 = 0) (h2 : (uxR s).1.length ≠ 32) : idR s = (zid, 9) := (if_pos h).trans (if_neg h2)
theorem idR_yes {s : ByteArray} (h : (uxR s).2 = 0) (h2 : (uxR s).1.length = 32) : idR s = ((uxR s).1, 0) := (if_pos h).trans (if_pos h2)
theorem idR_len (s : ByteArray) : (idR s).1.length = 32 := by
  unfold idR
  split
  · split
    · assumption
    · exact zid_len
  · exact zid_len

set_option maxRecDepth 20000 in
set_option maxHeartbeats 4000000 in
theorem ID_any (s : ByteArray) (hm : (s.size : Int) ≤ 1073741824) (w : World) : Calls Tryd.prog 43 #[.string s] w fun e w' => e = .returned (.tuple #[.agg (idA (idR s).1), .int .i64 (idR s).2]) ∧ Below w.heap.size w w' := by
  obtain ⟨L, hL⟩ : ∃ L, (uxR s).1 = L := ⟨_, rfl⟩
  obtain ⟨E, hE⟩ : ∃ E, (uxR s).2 = E := ⟨_, rfl⟩
  have HU := Lib.hid (Unhex_any s hm)
  rw [hL, hE] at HU
  by_cases h0 : E = 0
  · subst h0
    by_cases h32 : L.length = 32
    · have HI := Lib.hid (idR_yes hE (by rw [hL]; exact h32))
      rw [hL] at HI
      have H32 := Lib.hid h32
      clear hL hE h32
      go_enter Tryd.func43, Tryd.ntmps43
      go_wp2_with (refine wpList_alloc_zero rfl _ rfl (idA zid) zero_id ?_; intro w0 hg0 hb0 hz0)
      refine (HU.out _).mono ?_
      rintro e w2 ⟨A, n, c, rfl, ho2, hbl2⟩
      have hg2 := (hbl2.block w.heap.size (by omega)).trans hg0
      have hb2 := hb0.trans (hbl2.mono hb0.size)
      obtain rfl : 32 = n := by rw [← H32.out]; exact ho2.lenb
      rcases A with _ | ad
      · have := ho2.rd.nil rfl
        have := ho2.rd.le
        omega
      have harr := run_arr_id ad c
      have hld := load_id ho2.rd
      clear hz0 ho2 hg0 hb0 hbl2
      go_wp2_with (first
        | (refine wpList_load_run rfl _ _ rfl ad rfl _ hld ?_)
        | (refine wpList_store_all rfl _ _ _ rfl w.heap.size rfl _ _ _ (by rfl) hg2 (size_id H32.out) (idA_same zid_len H32.out) idA_one ?_; intro w1 hg1 hgr1 hz1))
      refine bodyPost_ret (results_cell_tmp rfl _ _ w.heap.size _ _ _ _ rfl hg1 Tryd.underlying30 rfl (size_id H32.out) _ rfl) rfl ?_
      rw [HI.out]
      exact ⟨rfl, hb2.grown hgr1 hb2.size (fun g hg => by injection hg with hg; omega)⟩
    · have HI := Lib.hid (idR_size hE (by rw [hL]; exact h32))
      have h32' : (((L.length : Nat) : Int) != 32) = true := by
        simp
        omega
      clear hL hE h32
      go_enter Tryd.func43, Tryd.ntmps43
      go_wp2_with (refine wpList_alloc_zero rfl _ rfl (idA zid) zero_id ?_; intro w0 hg0 hb0 hz0)
      refine (HU.out _).mono ?_
      rintro e w2 ⟨A, n, c, rfl, ho2, hbl2⟩
      have hg2 := (hbl2.block w.heap.size (by omega)).trans hg0
      have hb2 := hb0.trans (hbl2.mono hb0.size)
      obtain rfl : L.length = n := ho2.lenb
      clear hz0 ho2 hg0 hb0 hbl2
      go_wp2_with (first
        | (refine wpList_build_run rfl _ _ rfl #[] (by rfl) _ (build_id0 _) ?_)
        | (refine wpList_store_all rfl _ _ _ rfl w.heap.size rfl _ _ _ (by rfl) hg2 (size_id zid_len) rfl idA_one ?_; intro w1 hg1 hgr1 hz1))
      refine bodyPost_ret (results_cell_tmp rfl _ _ w.heap.size _ _ _ _ rfl hg1 Tryd.underlying30 rfl (size_id zid_len) _ rfl) rfl ?_
      rw [HI.out]
      exact ⟨rfl, hb2.grown hgr1 hb2.size (fun g hg => by injection hg with hg; omega)⟩
  · have HI := Lib.hid (idR_no (s := s) (by rw [hE]; exact h0))
    rw [hE] at HI
    have h0' : (E != 0) = true := by simpa using h0
    clear hL hE h0
    go_enter Tryd.func43, Tryd.ntmps43
    go_wp2_with (refine wpList_alloc_zero rfl _ rfl (idA zid) zero_id ?_; intro w0 hg0 hb0 hz0)
    refine (HU.out _).mono ?_
    rintro e w2 ⟨A, n, c, rfl, ho2, hbl2⟩
    have hg2 := (hbl2.block w.heap.size (by omega)).trans hg0
    have hb2 := hb0.trans (hbl2.mono hb0.size)
    clear hz0 ho2 hg0 hb0 hbl2
    go_wp2_with (first
      | (refine wpList_build_run rfl _ _ rfl #[] (by rfl) _ (build_id0 _) ?_)
      | (refine wpList_store_all rfl _ _ _ rfl w.heap.size rfl _ _ _ (by rfl) hg2 (size_id zid_len) rfl idA_one ?_; intro w1 hg1 hgr1 hz1))
    refine bodyPost_ret (results_cell_tmp rfl _ _ w.heap.size _ _ _ _ rfl hg1 Tryd.underlying30 rfl (size_id zid_len) _ rfl) rfl ?_
    rw [HI.out]
    exact ⟨rfl, hb2.grown hgr1 hb2.size (fun g hg => by injection hg with hg; omega)⟩

end Go.Proofs.YtaopohacelmglaaDoor.Nm

/-
  Package names: the document's ID.
-/
namespace Go.Proofs.YtaopohacelmglaaDoor.Nm
open Go.RowKit

set_option maxRecDepth 20000 in
set_option maxHeartbeats 4000000 in
theorem RID_any (s : ByteArray) (hm : (s.size : Int) ≤ 1073741824) (w : World) : Calls Tryd.prog 50 #[.string s] w fun e w' => e = .returned (.tuple #[.agg (idA (idR s).1), .int .i64 (idR s).2]) ∧ Below w.heap.size w w' := by
  obtain ⟨L, hL⟩ : ∃ L, (uxR s).1 = L := ⟨_, rfl⟩
  obtain ⟨E, hE⟩ : ∃ E, (uxR s).2 = E := ⟨_, rfl⟩
  have HU := Lib.hid (RUnhex_any s hm)
  rw [hL, hE] at HU
  by_cases h0 : E = 0
  · subst h0
    by_cases h32 : L.length = 32
    · have HI := Lib.hid (idR_yes hE (by rw [hL]; exact h32))
      rw [hL] at HI
      have H32 := Lib.hid h32
      clear hL hE h32
      go_enter Tryd.func50, Tryd.ntmps50
      go_wp2_with (refine wpList_alloc_zero rfl _ rfl (idA zid) zero_id ?_; intro w0 hg0 hb0 hz0)
      refine (HU.out _).mono ?_
      rintro e w2 ⟨A, n, c, rfl, ho2, hbl2⟩
      have hg2 := (hbl2.block w.heap.size (by omega)).trans hg0
      have hb2 := hb0.trans (hbl2.mono hb0.size)
      obtain rfl : 32 = n := by rw [← H32.out]; exact ho2.lenb
      rcases A with _ | ad
      · have := ho2.rd.nil rfl
        have := ho2.rd.le
        omega
      have harr := run_arr_id ad c
      have hld := load_id ho2.rd
      clear hz0 ho2 hg0 hb0 hbl2
      go_wp2_with (first
        | (refine wpList_load_run rfl _ _ rfl ad rfl _ hld ?_)
        | (refine wpList_store_all rfl _ _ _ rfl w.heap.size rfl _ _ _ (by rfl) hg2 (size_id H32.out) (idA_same zid_len H32.out) idA_one ?_; intro w1 hg1 hgr1 hz1))
      refine bodyPost_ret (results_cell_tmp rfl _ _ w.heap.size _ _ _ _ rfl hg1 Tryd.underlying30 rfl (size_id H32.out) _ rfl) rfl ?_
      rw [HI.out]
      exact ⟨rfl, hb2.grown hgr1 hb2.size (fun g hg => by injection hg with hg; omega)⟩
    · have HI := Lib.hid (idR_size hE (by rw [hL]; exact h32))
      have h32' : (((L.length : Nat) : Int) != 32) = true := by
        simp
        omega
      clear hL hE h32
      go_enter Tryd.func50, Tryd.ntmps50
      go_wp2_with (refine wpList_alloc_zero rfl _ rfl (idA zid) zero_id ?_; intro w0 hg0 hb0 hz0)
      refine (HU.out _).mono ?_
      rintro e w2 ⟨A, n, c, rfl, ho2, hbl2⟩
      have hg2 := (hbl2.block w.heap.size (by omega)).trans hg0
      have hb2 := hb0.trans (hbl2.mono hb0.size)
      obtain rfl : L.length = n := ho2.lenb
      clear hz0 ho2 hg0 hb0 hbl2
      go_wp2_with (first
        | (refine wpList_build_run rfl _ _ rfl #[] (by rfl) _ (build_id0 _) ?_)
        | (refine wpList_store_all rfl _ _ _ rfl w.heap.size rfl _ _ _ (by rfl) hg2 (size_id zid_len) rfl idA_one ?_; intro w1 hg1 hgr1 hz1))
      refine bodyPost_ret (results_cell_tmp rfl _ _ w.heap.size _ _ _ _ rfl hg1 Tryd.underlying30 rfl (size_id zid_len) _ rfl) rfl ?_
      rw [HI.out]
      exact ⟨rfl, hb2.grown hgr1 hb2.size (fun g hg => by injection hg with hg; omega)⟩
  · have HI := Lib.hid (idR_no (s := s) (by rw [hE]; exact h0))
    rw [hE] at HI
    have h0' : (E != 0) = true := by simpa using h0
    clear hL hE h0
    go_enter Tryd.func50, Tryd.ntmps50
    go_wp2_with (refine wpList_alloc_zero rfl _ rfl (idA zid) zero_id ?_; intro w0 hg0 hb0 hz0)
    refine (HU.out _).mono ?_
    rintro e w2 ⟨A, n, c, rfl, ho2, hbl2⟩
    have hg2 := (hbl2.block w.heap.size (by omega)).trans hg0
    have hb2 := hb0.trans (hbl2.mono hb0.size)
    clear hz0 ho2 hg0 hb0 hbl2
    go_wp2_with (first
      | (refine wpList_build_run rfl _ _ rfl #[] (by rfl) _ (build_id0 _) ?_)
      | (refine wpList_store_all rfl _ _ _ rfl w.heap.size rfl _ _ _ (by rfl) hg2 (size_id zid_len) rfl idA_one ?_; intro w1 hg1 hgr1 hz1))
    refine bodyPost_ret (results_cell_tmp rfl _ _ w.heap.size _ _ _ _ rfl hg1 Tryd.underlying30 rfl (size_id zid_len) _ rfl) rfl ?_
    rw [HI.out]
    exact ⟨rfl, hb2.grown hgr1 hb2.size (fun g hg => by injection hg with hg; omega)⟩

end Go.Proofs.YtaopohacelmglaaDoor.Nm

/-
  The document's May.
-/
namespace Go.Proofs.YtaopohacelmglaaDoor.Nm
open Go.RowKit

set_option maxRecDepth 20000 in
set_option maxHeartbeats 4000000 in
theorem RMay_any (s : ByteArray) (w : World) : Calls Tryd.prog 49 #[.string s] w fun e w' => e = .returned (.bool (nameB s)) ∧ w = w' := by
  by_cases h1 : (s.size : Int) < 1
  · have HN := Lib.hid (nameB_no (s := s) (fun h => by have := h.1; omega))
    go_enter Tryd.func49, Tryd.ntmps49
    go_wp2_with fail
    go_ret
    rw [HN.out]
    exact ⟨rfl, rfl⟩
  by_cases h2 : (16 : Int) < s.size
  · have HN := Lib.hid (nameB_no (s := s) (fun h => by have := h.2.1; omega))
    have h1' : decide ((s.size : Int) < 1) = false := by simpa using h1
    clear h1
    go_enter Tryd.func49, Tryd.ntmps49
    go_wp2_with fail
    go_ret
    rw [HN.out]
    exact ⟨rfl, rfl⟩
  have h0 : 0 < s.size := by omega
  have h1' : (1 : Int) ≤ s.size := by omega
  have h2' : (s.size : Int) ≤ 16 := by omega
  clear h1 h2
  by_cases h3 : (s[0].toNat : Int) < 97
  · have HN := Lib.hid (nameB_no (s := s) (fun h => by have := (h.2.2.1 h0).1; omega))
    go_enter Tryd.func49, Tryd.ntmps49
    go_wp2_with fail
    go_ret
    rw [HN.out]
    exact ⟨rfl, rfl⟩
  by_cases h4 : 122 < (s[0].toNat : Int)
  · have HN := Lib.hid (nameB_no (s := s) (fun h => by have := (h.2.2.1 h0).2; omega))
    have h3' : 97 ≤ (s[0].toNat : Int) := by omega
    clear h3
    go_enter Tryd.func49, Tryd.ntmps49
    go_wp2_with fail
    go_ret
    rw [HN.out]
    exact ⟨rfl, rfl⟩
  have h3' : 97 ≤ (s[0].toNat : Int) := by omega
  have h4' : (s[0].toNat : Int) ≤ 122 := by omega
  clear h3 h4
  go_enter Tryd.func49, Tryd.ntmps49
  go_wp2_with fail
  go_loop [3] (fun i => ∃ k : Nat, k ≤ s.size ∧ i = .int .i64 k ∧ Hid (∀ j (hj : j < s.size), j < k → inName (s[j].toNat : Int))) (fun i => s.size - (intOf i).toNat)
  case atStart => exact ⟨0, by omega, rfl, (show ∀ j (hj : j < s.size), j < 0 → _ from fun j _ h => absurd h (Nat.not_lt_zero j))⟩
  case round =>
    obtain ⟨k, hk, rfl, hH⟩ := hrel
    by_cases hlt : k < s.size
    · have HS : Hid (inName (s[k].toNat : Int) → ∀ j (hj : j < s.size), j < k + 1 → inName (s[j].toNat : Int)) := by
        show _ → _
        intro h j hj hjk
        by_cases e : j = k
        · subst e
          exact h
        · exact hH.out j hj (by omega)
      have HN : Hid (¬ inName (s[k].toNat : Int) → nameB s = false) := by
        show _ → _
        exact fun h => nameB_no fun h2 => h (h2.2.2.2 k hlt)
      rcases byte_case (s[k].toNat : Int) with ⟨c1, c2⟩ | ⟨c1, c2⟩ | c1 | c1 | ⟨c1, c2⟩ | ⟨c1, c2⟩ | c1
      · go_wp2_with fail
        exact ⟨⟨k + 1, by omega, by go_num, HS.out (.inl ⟨c1, c2⟩)⟩, by simp [intOf]; omega⟩
      · go_wp2_with fail
        exact ⟨⟨k + 1, by omega, by go_num, HS.out (.inr (.inl ⟨c1, c2⟩))⟩, by simp [intOf]; omega⟩
      · have hs := HS.out (.inr (.inr c1))
        have HS2 := Lib.hid hs
        have c2 : ((s[k].toNat : Int) == 45) = true := by simpa using c1
        have c3 : (s[k].toNat : Int) < 48 := by omega
        clear hs c1
        go_wp2_with fail
        exact ⟨⟨k + 1, by omega, by go_num, HS2.out⟩, by simp [intOf]; omega⟩
      all_goals
        have HN2 := Lib.hid (HN.out (by unfold inName; omega))
        have c9 : ((s[k].toNat : Int) == 45) = false := by
          simp
          omega
        go_wp2_with fail
        all_goals first
          | (go_ret; rw [HN2.out]; exact ⟨rfl, rfl⟩)
          | (exfalso; simp at *; omega)
    · have HY := Lib.hid (nameB_yes (s := s) ⟨by omega, by omega, fun _ => ⟨h3', h4'⟩, fun j hj => hH.out j hj (by omega)⟩)
      go_wp2_with fail
      go_ret
      rw [HY.out]
      exact ⟨rfl, rfl⟩

end Go.Proofs.YtaopohacelmglaaDoor.Nm

/-
  The order of decimal texts, in plain words.
-/
namespace Go.Proofs.YtaopohacelmglaaDoor.Nm
open Go.RowKit

def vL : List UInt8 → Nat → Nat
  | [], a => a
  | x :: l, a => vL l (10 * a + (x.toNat - 48))
theorem vL_snoc (l : List UInt8) (x : UInt8) : ∀ a, vL (l ++ [x]) a = 10 * vL l a + (x.toNat - 48) := by
  induction l with
  | nil => intro a; rfl
  | cons y l ih => intro a; exact ih _
def digL (l : List UInt8) : Prop := ∀ x ∈ l, 48 ≤ x.toNat ∧ x.toNat ≤ 57
theorem size_list (s : ByteArray) : s.data.toList.length = s.size := by simp
theorem get_list (s : ByteArray) (k : Nat) (h : k < s.size) : s.data.toList[k]'(by rw [size_list]; exact h) = s[k] := by
  simp only [Array.getElem_toList]
  rfl
theorem valS_list (s : ByteArray) : ∀ k, k ≤ s.size → valS s k = vL (s.data.toList.take k) 0
  | 0, _ => rfl
  | k + 1, h => by
    have hk : k < s.size := by omega
    rw [valS, dif_pos hk, valS_list s k (by omega), List.take_succ_eq_append_getElem (by rw [size_list]; exact hk), vL_snoc, get_list s k hk]
theorem valS_all (s : ByteArray) : valS s s.size = vL s.data.toList 0 := by
  rw [valS_list s s.size (Nat.le_refl _), List.take_of_length_le (by rw [size_list]; exact Nat.le_refl _)]
theorem digL_of (s : ByteArray) (h : digS s) : digL s.data.toList := by
  intro x hx
  obtain ⟨k, hk, rfl⟩ := List.getElem_of_mem hx
  have hk' : k < s.size := by rw [← size_list]; exact hk
  have h2 := h k hk'
  rw [← get_list s k hk'] at h2
  omega
theorem vL_lo (l : List UInt8) : ∀ a, a * 10 ^ l.length ≤ vL l a := by
  induction l with
  | nil => intro a; simp [vL]
  | cons x l ih =>
    intro a
    refine Nat.le_trans ?_ (ih _)
    rw [List.length_cons, Nat.pow_succ, Nat.mul_comm (10 ^ l.length) 10, ← Nat.mul_assoc]
    exact Nat.mul_le_mul_right _ (by omega)
theorem vL_hi (l : List UInt8) : ∀ a, digL l → vL l a < (a + 1) * 10 ^ l.length := by
  induction l with
  | nil => intro a _; simp [vL]
  | cons x l ih =>
    intro a h
    have hx := h x (by simp)
    refine Nat.lt_of_lt_of_le (ih _ fun y hy => h y (by simp [hy])) ?_
    rw [List.length_cons, Nat.pow_succ, Nat.mul_comm (10 ^ l.length) 10, ← Nat.mul_assoc]
    exact Nat.mul_le_mul_right _ (by omega)
theorem less_len (l m : List UInt8) (hl : digL l) (h : l.length < m.length) (hz : ∀ y r, m = y :: r → 49 ≤ y.toNat) : vL l 0 < vL m 0 := by
  obtain _ | ⟨y, r⟩ := m
  · simp at h
  have hy := hz y r rfl
  refine Nat.lt_of_lt_of_le (vL_hi l 0 hl) ?_
  have h1 : 10 ^ l.length ≤ 10 ^ r.length := Nat.pow_le_pow_right (by omega) (by simp at h; omega)
  have h2 := vL_lo r (10 * 0 + (y.toNat - 48))
  have h3 : 1 * 10 ^ r.length ≤ (10 * 0 + (y.toNat - 48)) * 10 ^ r.length := Nat.mul_le_mul_right _ (by omega)
  show (0 + 1) * 10 ^ l.length ≤ vL r (10 * 0 + (y.toNat - 48))
  omega
theorem less_lex : ∀ (l m : List UInt8) (a b : Nat), digL l → digL m → l.length = m.length → (vL l a < vL m b ↔ a < b ∨ (a = b ∧ Op.bytesLess l m = true))
  | [], [], a, b, _, _, _ => by simp [vL, Op.bytesLess]
  | [], _ :: _, _, _, _, _, h => by simp at h
  | _ :: _, [], _, _, _, _, h => by simp at h
  | x :: l, y :: m, a, b, hl, hm, h => by
    have hx := hl x (by simp)
    have hy := hm y (by simp)
    have ih := less_lex l m (10 * a + (x.toNat - 48)) (10 * b + (y.toNat - 48)) (fun z hz => hl z (by simp [hz])) (fun z hz => hm z (by simp [hz])) (by simpa using h)
    show vL l _ < vL m _ ↔ _
    rw [ih]
    simp only [Op.bytesLess, Bool.or_eq_true, Bool.and_eq_true, decide_eq_true_eq, beq_iff_eq, UInt8.lt_iff_toNat_lt, ← UInt8.toNat_inj]
    generalize Op.bytesLess l m = B
    cases B <;> simp <;> omega

theorem head_list (s : ByteArray) (hd : digS s) (hz : ¬ zeroS s) (h1 : 1 < s.size) : ∀ y r, s.data.toList = y :: r → 49 ≤ y.toNat := by
  intro y r e
  have h0 : 0 < s.size := by omega
  have h2 := get_list s 0 h0
  simp only [e, List.getElem_cons_zero] at h2
  have h3 := (hd 0 h0).1
  have h4 : ¬ (s[0].toNat : Int) = 48 := fun h => hz ⟨h0, h, h1⟩
  rw [h2]
  omega

theorem order_same (s t : ByteArray) (hs : digS s) (ht : digS t) (h : s.size = t.size) : decide (valS s s.size < valS t t.size) = Op.bytesLess s.toList t.toList := by
  rw [valS_all, valS_all, ByteArray.toList_eq, ByteArray.toList_eq, Bool.eq_iff_iff, decide_eq_true_eq, less_lex _ _ 0 0 (digL_of s hs) (digL_of t ht) (by rw [size_list, size_list]; exact h)]
  simp
theorem order_less (s t : ByteArray) (hs : digS s) (ht : digS t) (h0 : 0 < s.size) (hz : ¬ zeroS t) (h : s.size < t.size) : valS s s.size < valS t t.size := by
  rw [valS_all, valS_all]
  exact less_len _ _ (digL_of s hs) (by rw [size_list, size_list]; exact h) (head_list t ht hz (by omega))

end Go.Proofs.YtaopohacelmglaaDoor.Nm
