/-
  Slices of fields: read, opened.
-/
import Derived.Test.YtpidakfpoihdkaaDoorFiC
import Derived.Test.YtpidakfpoihdkaaDoorFiD
import Derived.Test.YtpidakfpoihdkaaDoorOpen2
import Derived.Lib.SmallJoins
import Derived.Deep.Strs
import Derived.Deep.SlicePairs
namespace Go.Proofs.YtpidakfpoihdkaaDoor
open Go.ChangeShapes Go.WideShapes Go.ChangeAt Go.RowKit Go.Deep

abbrev Fd := List UInt8 × List UInt8
def fdL : List Fd → List Value
  | [] => []
  | f :: fs => strV f.1 :: strV f.2 :: fdL fs
theorem fdL_len : ∀ fs, (fdL fs).length = fs.length * 2
  | [] => rfl
  | f :: fs => by
    have := fdL_len fs
    simp only [fdL, List.length_cons, this]
    omega
theorem fdL_at : ∀ (fs : List Fd) (k : Nat) (f : Fd), fs[k]? = some f → (fdL fs)[k * 2]? = some (strV f.1) ∧ (fdL fs)[k * 2 + 1]? = some (strV f.2)
  | [], k, f, h => by simp at h
  | g :: fs, 0, f, h => by
    obtain rfl : g = f := by simpa using h
    exact ⟨rfl, rfl⟩
  | g :: fs, k + 1, f, h => by
    have := fdL_at fs k f (by simpa using h)
    rw [show (k + 1) * 2 = k * 2 + 1 + 1 by omega]
    exact this
/-- A slice of fields. -/
def Fds (w : World) (A : Option Addr) (n c : Nat) (fs : List Fd) : Prop := Rd w 2 A n c (fdL fs)
theorem ef : ElemT Tryd.prog 36 24 (.agg (fdA [] [])) 2 32 := ElemT.of Tryd.underlying36 (by kernel_rfl) rfl (by omega)
section
variable {w w' : World} {A : Option Addr} {n c : Nat} {fs : List Fd}
theorem Fds.len (h : Fds w A n c fs) : fs.length = n := by
  have := Rd.len h
  rw [fdL_len] at this
  omega
theorem Fds.below (h : Fds w A n c fs) (hb : Below w.heap.size w w') : Fds w' A n c fs := Rd.below h hb
theorem Fds.name (h : Fds w A n c fs) {k : Nat} {f : Fd} (hx : fs[k]? = some f) : w.cell? (at_ A (k * 2)) = some (strV f.1) := Rd.cell h _ _ (fdL_at fs k f hx).1
theorem Fds.value (h : Fds w A n c fs) {k : Nat} {f : Fd} (hx : fs[k]? = some f) : w.cell? (at_ A (k * 2 + 1)) = some (strV f.2) := Rd.cell h _ _ (fdL_at fs k f hx).2
theorem at_add2 (A : Option Addr) (m j : Nat) : (at_ A m).add j = at_ A (m + j) := by
  unfold at_
  exact add_of_add _ _ _
theorem Fds.load (h : Fds w A n c fs) {k : Nat} {f : Fd} (hx : fs[k]? = some f) : (loadVar 24 (at_ A (k * 2))).run Tryd.prog w = .ok (.agg (fdA f.1 f.2)) w := by
  have hl := run_loadCells_list (P := Tryd.prog) w (at_ A (k * 2)) [strV f.1, strV f.2] (fun j v hv => by
    rw [at_add2]
    match j, hv with
    | 0, hv => obtain rfl := Option.some.inj hv; exact h.name hx
    | 1, hv => obtain rfl := Option.some.inj hv; exact h.value hx)
  have e : [strV f.1, strV f.2].length = 2 := rfl
  rw [e] at hl
  simp [loadVar, isAgg, run_underlying Tryd.underlying24, sizeOf_run size_fd0, hl, fdA, strV]
theorem Fds.idx (h : Fds w A n c fs) {k : Nat} (hk : k < n) (W : World) : (Instr.indexAt 36 (.slice A n c) (.int .i64 (k : Int))).run Tryd.prog W = .ok (.pointer (some (at_ A (k * 2)))) W :=
  run_index_rd ef (Rd.nil h) (Rd.le h) k hk W
end
theorem cells_str : Tryd.prog.cellsOf 9 = 1 := by kernel_rfl
theorem cells_fd : Tryd.prog.cellsOf 24 = 2 := by kernel_rfl
theorem rd_fields {H : Type} {enc : TypeId × Value → H} {w : World} {a : Option Addr} {len cap : Nat} {d : DataW H} {p : List MemPlace}
    (h : DataW.Trod enc Tryd.prog w 0 (fun _ => true) true 36 (.slice a len cap) d p) : ∃ fs : List Fd, Fds w a len cap fs := by
  obtain ⟨fuel, hf⟩ := h
  rcases open_slice_pairs Tryd.underlying36 Tryd.underlying24 cells_fd rfl rfl cells_str cells_str hf with ⟨hcs, _⟩ | ⟨x, l, c, m, n, V0, V1, D0, D1, P0, P1, hcs, _, hl, hm, hmm, _, hel⟩
  · simp [Value.cells] at hcs
    obtain ⟨rfl, rfl, rfl⟩ := hcs
    exact ⟨[], Rd.nil_ w 2⟩
  · simp [Value.cells] at hcs
    obtain ⟨rfl, rfl, rfl⟩ := hcs
    obtain ⟨ll, hll, hq⟩ := choose_list (Q := fun i (y : Fd) => w.cell? (at_ (some x) (i * 2)) = some (strV y.1) ∧ w.cell? (at_ (some x) (i * 2 + 1)) = some (strV y.2)) len fun i hi => by
      obtain ⟨h0, h1, t0, t1⟩ := hel i (by simp at hmm; omega)
      obtain ⟨s0, e0, _, _⟩ := DataW.trod_string Tryd.underlying9 t0
      obtain ⟨s1, e1, _, _⟩ := DataW.trod_string Tryd.underlying9 t1
      have e0' : V0 i = .string s0 := by simpa using e0
      have e1' : V1 i = .string s1 := by simpa using e1
      rw [e0'] at h0
      rw [e1'] at h1
      refine ⟨(s0.data.toList, s1.data.toList), ?_, ?_⟩
      · rw [at_some, h0]
        cases s0
        simp [strV]
      · rw [at_some, h1]
        cases s1
        simp [strV]
    refine ⟨ll, ⟨by rw [fdL_len, hll], hl, hm, (fun h => by cases h), fun j v hv => ?_⟩⟩
    have hjl : j < ll.length * 2 := by rw [← fdL_len]; exact (List.getElem?_eq_some_iff.1 hv).1
    have hi : j / 2 < ll.length := by omega
    have hx : ll[j / 2]? = some ll[j / 2] := List.getElem?_eq_getElem hi
    obtain ⟨a0, a1⟩ := fdL_at ll _ _ hx
    obtain ⟨b0, b1⟩ := hq _ _ hx
    by_cases hj : j % 2 = 0
    · have e : j = j / 2 * 2 := by omega
      rw [e] at hv ⊢
      rw [a0] at hv
      obtain rfl := Option.some.inj hv
      exact b0
    · have e : j = j / 2 * 2 + 1 := by omega
      rw [e] at hv ⊢
      rw [a1] at hv
      obtain rfl := Option.some.inj hv
      exact b1

end Go.Proofs.YtpidakfpoihdkaaDoor
