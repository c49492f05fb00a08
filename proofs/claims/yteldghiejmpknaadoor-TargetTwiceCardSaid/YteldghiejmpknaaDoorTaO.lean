/-
  Package target: write.
-/
import Derived.Test.YteldghiejmpknaaDoorTaT
import Derived.Test.YteldghiejmpknaaDoorTaC
namespace Go.Proofs.YteldghiejmpknaaDoor
open Go.RowKit

/-- A builder that holds the bytes l. -/
def BW (b0 b : Nat) (l : List UInt8) (w : World) : Prop := Lib.IsBuilder 54 5 b0 b (Lib.byteCells l) w
theorem bytes_app (l : List UInt8) (x : UInt8) : Lib.byteCells (l ++ [x]) = Lib.byteCells l ++ [.int .u8 (x.toNat : Int)] := by
  simp [Lib.byteCells]
theorem put_any (b0 b : Nat) (l : List UInt8) (x : UInt8) (c : Int) (hc : c = (x.toNat : Int)) (w : World) (h : BW b0 b l w) (hlen : l.length + 1 ≤ 140737488355328) (hBw : b0 ≤ w.heap.size) :
    Calls Tryd.prog 24 #[.pointer (some ⟨b, 0, none⟩), .int .u8 c] w fun e w' => e = .returned .nilIface ∧ BW b0 b (l ++ [x]) w' ∧ Below b0 w w' ∧ Spares b w w' := by
  subst hc
  refine (writeByte_any b0 b (Lib.byteCells l) (x.toNat : Int) w h (by simpa [Lib.byteCells] using hlen) hBw).mono ?_
  rintro e w' ⟨rfl, h1, h2, h3⟩
  refine ⟨rfl, .inr ?_, h2, h3⟩
  rw [bytes_app]
  exact h1
theorem bw_go {b0 b : Nat} {l : List UInt8} {w w' : World} (h : BW b0 b l w) (hb : Below w.heap.size w w') : BW b0 b l w' := by
  have key : ∀ p, Lib.BuilderAt 54 5 b0 b p (Lib.byteCells l) w → Lib.BuilderAt 54 5 b0 b p (Lib.byteCells l) w' := fun p h => by
    obtain ⟨h1, v, hbk, hown, hne⟩ := h
    have hlt : b < w.heap.size := (Array.getElem?_eq_some_iff.1 hbk).1
    refine ⟨h1, v, (hb.block _ hlt).trans hbk, ⟨hown.1, ?_⟩, hne⟩
    rcases hown.2 with h0 | ⟨g, cap, cur, e1, e2, hh, e3⟩
    · exact .inl h0
    · exact .inr ⟨g, cap, cur, e1, e2, (hb.block _ (Array.getElem?_eq_some_iff.1 hh).1).trans hh, e3⟩
  rcases h with h | h
  · exact .inl (key _ h)
  · exact .inr (key _ h)
theorem escL_snoc (p : List UInt8) (x : UInt8) : escL (p ++ [x]) = escL p ++ escB x := by simp [escL]
theorem escL_take {s : List UInt8} {k : Nat} {x : UInt8} (hx : s[k]? = some x) : escL (s.take (k + 1)) = escL (s.take k) ++ escB x := by
  obtain ⟨hk, he⟩ := List.getElem?_eq_some_iff.1 hx
  rw [List.take_succ_eq_append_getElem hk, he, escL_snoc]
section
variable {P : Program} {ops : Array Oper} {rest : List Oper} {o : Oper} {a : Act} {Q : Exit → Act → World → Prop} {w : World}
theorem wpList_index_run (hw : Region.wanted o (yielded ops a.tmps) = true) (ty : TypeId) (x y : Operand) (ho : o.op = .index ty x y) (u i : Value) (hx : a.eval x = u) (hi : a.eval y = i) (v : Value) (hrun : (Instr.index ty u i).run P w = .ok v w)
    (k : wpList P ops Q rest (a.put o.dst v) w) : wpList P ops Q (o :: rest) a w := by
  refine wpList_taken hw fun K hK => ?_
  unfold Oper.wp execOp
  simp only [ho, hx, hi, Sem.run_bind, Sem.run_pure, Result.andThen_ok, hrun]
  exact hK _ _ k
end
def digs : List UInt8 := [48, 49, 50, 51, 52, 53, 54, 55, 56, 57, 65, 66, 67, 68, 69, 70]
def chkD (n : Nat) : Bool := digs[n]? == some (hexU n)
theorem chkD_fin : ∀ n : Fin 16, chkD n.1 = true := by decide +kernel
theorem digs_at {n : Nat} (h : n < 16) : digs[n]? = some (hexU n) := by
  have := chkD_fin ⟨n, h⟩
  simpa [chkD] using this

def chkA (n : Nat) : Bool := bits .and .u8 (n : Int) 15 == (n : Int) % 16
theorem chkA_fin : ∀ n : Fin 256, chkA n.1 = true := by decide +kernel
theorem and15 (x : UInt8) : bits .and .u8 (x.toNat : Int) 15 = (x.toNat : Int) % 16 := by
  have := chkA_fin ⟨x.toNat, x.toNat_lt⟩
  unfold chkA at this
  simpa using this
def digS : ByteArray := ⟨digs.toArray⟩
theorem digS_at {n : Nat} (h : n < 16) {I : Int} (hI : I = n) (W : World) : (Instr.index 9 (.string digS) (.int .u8 I)).run Tryd.prog W = .ok (.int .u8 ((hexU n).toNat : Int)) W := by
  subst hI
  exact run_str_at (P := Tryd.prog) Tryd.underlying9 digs n (hexU n) (digs_at h) W

set_option maxRecDepth 20000 in
set_option maxHeartbeats 8000000 in
theorem write_any (b0 b : Nat) (l s : List UInt8) (w : World) (h : BW b0 b l w) (hlen : l.length + 3 * s.length ≤ 1073741824) (hBw : b0 ≤ w.heap.size) :
    Calls Tryd.prog 25 #[.pointer (some ⟨b, 0, none⟩), .string ⟨s.toArray⟩] w fun e w' => e = .returned (.tuple #[]) ∧ BW b0 b (l ++ escL s) w' ∧ Below b0 w w' ∧ Spares b w w' := by
  have hsz := size_mk s
  obtain ⟨L, hL⟩ : ∃ L, s.length = L := ⟨_, rfl⟩
  rw [hL] at hsz hlen
  have HL := Lib.hid hL
  clear hL
  have HLEN := Lib.hid hlen
  have hLm : L ≤ 1073741824 := by omega
  clear hlen
  go_enter Tryd.func25, Tryd.ntmps25
  go_wp2_with fail
  go_loopw [8] (fun i wr => ∃ k : Nat, k ≤ L ∧ i = .int .i64 k ∧ BW b0 b (l ++ escL (s.take k)) wr ∧ Below b0 w wr ∧ Spares b w wr) (fun i _ => L - (intOf i).toNat)
  case atStart => exact ⟨0, by omega, rfl, by simpa [escL] using h, Below.refl _ _, Spares.refl _ _⟩
  case round =>
    obtain ⟨k, hk, rfl, hB, hb, hsp⟩ := hrel
    have hbs := hb.size
    have hb0 : b0 ≤ wr.heap.size := by omega
    by_cases hkL : k < L
    · have hx : s[k]? = some (s[k]'(by rw [HL.out]; exact hkL)) := List.getElem?_eq_getElem _
      generalize s[k]'(by rw [HL.out]; exact hkL) = x at hx
      have hi : ∀ W, (Instr.index 9 (.string ⟨s.toArray⟩) (.int .i64 (k : Int))).run Tryd.prog W = .ok (.int .u8 (x.toNat : Int)) W := fun W => run_str_at (P := Tryd.prog) Tryd.underlying9 s k x hx (kl := .i64) W
      have hk' : (k : Int) < L := by omega
      have HPL := Lib.hid (fun W => plain_any x W)
      have hnx := escL_take hx
      have hel := escL_len (s.take k)
      rw [List.length_take, HL.out] at hel
      obtain ⟨M, hM⟩ : ∃ M, l ++ escL (s.take k) = M := ⟨_, rfl⟩
      have hMl : M.length ≤ 1073741824 := by
        have := HLEN.out
        rw [← hM, List.length_append]
        omega
      have HNX : Hid (l ++ escL (s.take (k + 1)) = M ++ escB x) := by
        show _ = _
        rw [hnx, ← hM, List.append_assoc]
      rw [hM] at hB
      clear hx hkL hnx hel hM
      cases hp : plB x
      · rw [hp] at HPL
        have HNX2 : Hid (l ++ escL (s.take (k + 1)) = M ++ [37] ++ [hexU (x.toNat / 16)] ++ [hexU (x.toNat % 16)]) := by
          show _ = _
          rw [HNX.out]
          unfold escB
          rw [hp]
          simp
        clear hp HNX
        go_wp2_with fail
        refine (HPL.out _).mono ?_
        rintro e w2 ⟨rfl, rfl⟩
        go_wp2_with fail
        refine (put_any b0 b M 37 37 rfl _ hB (by omega) hb0).mono ?_
        rintro e w3 ⟨rfl, hB3, hb3, hsp3⟩
        have HD1 := Lib.hid (fun W => digS_at (n := x.toNat / 16) (by have := x.toNat_lt; omega) (I := (x.toNat : Int) / 16) (by omega) W)
        have HD2 := Lib.hid (fun W => digS_at (n := x.toNat % 16) (by omega) (I := (x.toNat : Int) % 16) (by omega) W)
        go_wp2_with (refine wpList_index_run (by rfl) _ _ _ (by rfl) (.string digS) (.int .u8 ((x.toNat : Int) / 16)) (by rfl) (by rfl) _ (HD1.out _) ?_)
        refine (put_any b0 b _ (hexU (x.toNat / 16)) _ rfl _ hB3 (by simp; omega) (Nat.le_trans hb0 hb3.size)).mono ?_
        rintro e w4 ⟨rfl, hB4, hb4, hsp4⟩
        have hand := and15 x
        go_wp2_with (refine wpList_index_run (by rfl) _ _ _ (by rfl) (.string digS) (.int .u8 ((x.toNat : Int) % 16)) (by rfl) (by rfl) _ (HD2.out _) ?_)
        refine (put_any b0 b _ (hexU (x.toNat % 16)) _ rfl _ hB4 (by simp; omega) (Nat.le_trans hb0 (hb3.trans hb4).size)).mono ?_
        rintro e w5 ⟨rfl, hB5, hb5, hsp5⟩
        rw [← HNX2.out] at hB5
        go_wp2_with fail
        go_roundw
        case rel => exact ⟨k + 1, by omega, by go_num, hB5, hb.trans ((hb3.trans hb4).trans hb5), ((hsp.trans hsp3 hb.size).trans hsp4 (hb.trans hb3).size).trans hsp5 ((hb.trans hb3).trans hb4).size⟩
        case measure => simp [intOf]; omega
      · rw [hp] at HPL
        have HNX2 : Hid (l ++ escL (s.take (k + 1)) = M ++ [x]) := by
          show _ = _
          rw [HNX.out]
          unfold escB
          rw [hp]
          rfl
        clear hp HNX
        go_wp2_with fail
        refine (HPL.out _).mono ?_
        rintro e w2 ⟨rfl, rfl⟩
        go_wp2_with fail
        refine (put_any b0 b M x _ rfl _ hB (by omega) hb0).mono ?_
        rintro e w3 ⟨rfl, hB3, hb3, hsp3⟩
        rw [← HNX2.out] at hB3
        go_wp2_with fail
        go_roundw
        case rel => exact ⟨k + 1, by omega, by go_num, hB3, hb.trans hb3, hsp.trans hsp3 hb.size⟩
        case measure => simp [intOf]; omega
    · obtain rfl : k = L := by omega
      have hfin : s.take k = s := List.take_of_length_le (by rw [HL.out]; exact Nat.le_refl _)
      rw [hfin] at hB
      clear hkL hfin
      go_wp2_with fail
      go_end0
      exact ⟨rfl, hB, hb, hsp⟩

end Go.Proofs.YteldghiejmpknaaDoor
