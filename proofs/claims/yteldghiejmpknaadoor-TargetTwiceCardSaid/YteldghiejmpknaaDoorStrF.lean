/-
  Strings that are lists of bytes: cuts, bytes, lengths.
-/
import Derived.Test.YteldghiejmpknaaDoorQuiet
namespace Go.Proofs.YteldghiejmpknaaDoor
open Go.RowKit

theorem size_mk (l : List UInt8) : (⟨l.toArray⟩ : ByteArray).size = l.length := by simp [ByteArray.size]
theorem run_str_l {P : Program} {t : TypeId} (ht : P.underlying t = some .string) (l : List UInt8) (k : Nat) (hk : k ≤ l.length) {kl : IntKind} (W : World) :
    (Instr.sliceAt t (.string ⟨l.toArray⟩) (some (.int kl (k : Int))) none none).run P W = .ok (.string ⟨(l.drop k).toArray⟩) W := by
  have hs := size_mk l
  rw [run_sliceAt_string (h := ht), run_slice_string_l (ht := ht) (h0 := by omega) (h1 := by rw [hs]; omega)]
  congr 2
  apply ByteArray.ext
  apply Array.ext'
  simp [ByteArray.data_extract, hs]
  exact List.take_of_length_le (by rw [List.length_drop]; omega)
theorem run_str_lh {P : Program} {t : TypeId} (ht : P.underlying t = some .string) (l : List UInt8) (i j : Nat) (hij : i ≤ j) (hj : j ≤ l.length) {kl kh : IntKind} {I J : Int} (hI : I = i) (hJ : J = j) (W : World) :
    (Instr.sliceAt t (.string ⟨l.toArray⟩) (some (.int kl I)) (some (.int kh J)) none).run P W = .ok (.string ⟨((l.drop i).take (j - i)).toArray⟩) W := by
  subst hI hJ
  have hs := size_mk l
  have hr : (Instr.slice t (.string ⟨l.toArray⟩) (some (.int kl (i : Int))) (some (.int kh (j : Int))) none).run P W = .ok (.string ((⟨l.toArray⟩ : ByteArray).extract i j)) W := by
    simp [Instr.slice, run_underlying ht, Instr.sliceBounds, run_sliceBound, sliced, hij, hs, hj, (by omega : (0 : Int) ≤ i), (by omega : (0 : Int) ≤ j)]
  rw [run_sliceAt_string (h := ht), hr]
  congr 2
  apply ByteArray.ext
  apply Array.ext'
  simp [ByteArray.data_extract, hs]
  try rw [List.drop_take]
theorem run_str_at {P : Program} {t : TypeId} (ht : P.underlying t = some .string) (l : List UInt8) (k : Nat) (x : UInt8) (hk : l[k]? = some x) {kl : IntKind} (W : World) :
    (Instr.index t (.string ⟨l.toArray⟩) (.int kl (k : Int))).run P W = .ok (.int .u8 (x.toNat : Int)) W := by
  obtain ⟨hl, hx⟩ := List.getElem?_eq_some_iff.1 hk
  have hs := size_mk l
  rw [run_index_string (P := P) W t _ kl (k : Int) ht, dif_pos ⟨by omega, by rw [hs]; omega⟩]
  have e : (k : Int).toNat = k := Int.toNat_natCast k
  simp only [e]
  congr 3
  rw [← hx]
  simp [ByteArray.getElem_eq_getElem_data]

end Go.Proofs.YteldghiejmpknaaDoor
