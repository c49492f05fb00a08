/-
  How a manifest that came in is opened.
-/
import Derived.Test.YtebnmpgoiedicaaSnapA
import Derived.Test.YtebnmpgoiedicaaOpen
import Derived.Deep.Strs
namespace Go.Proofs.Ytebnmpgoiedicaa
open Go.ChangeShapes Go.WideShapes Go.ChangeAt Go.RowKit Go.Deep

theorem cells_man : Try.prog.cellsOf 25 = 34 := by kernel_rfl
theorem cells_id : Try.prog.cellsOf 23 = 32 := by kernel_rfl
theorem cells_u8 : Try.prog.cellsOf 5 = 1 := by kernel_rfl
theorem cells_i64 : Try.prog.cellsOf 2 = 1 := by kernel_rfl
theorem cells_str : Try.prog.cellsOf 9 = 1 := by kernel_rfl

theorem bytes_of {cs : List Value} : ∀ (n : Nat), cs.length = n → (∀ i, i < n → ∃ b : UInt8, cs[i]? = some (b8 b)) → ∃ R : List UInt8, R.length = n ∧ cs = R.map b8 := by
  intro n hn h
  obtain ⟨R, hR, hq⟩ : ∃ R : List UInt8, R.length = n ∧ ∀ (i : Nat) (b : UInt8), R[i]? = some b → cs[i]? = some (b8 b) := by
    clear hn
    induction n with
    | zero => exact ⟨[], rfl, fun i b hb => by simp at hb⟩
    | succ n ih =>
      obtain ⟨R, hR, hq⟩ := ih fun i hi => h i (by omega)
      obtain ⟨b, hb⟩ := h n (by omega)
      refine ⟨R ++ [b], by simp [hR], fun i c hc => ?_⟩
      by_cases hi : i < n
      · rw [List.getElem?_append_left (by omega)] at hc
        exact hq i c hc
      · by_cases hin : i = n
        · subst hin
          rw [List.getElem?_append_right (by omega), hR, Nat.sub_self] at hc
          simp at hc
          subst hc
          exact hb
        · rw [List.getElem?_eq_none (by simp; omega)] at hc
          cases hc
  refine ⟨R, hR, List.ext_getElem? fun i => ?_⟩
  rw [List.getElem?_map]
  cases hRi : R[i]? with
  | none =>
    have := List.getElem?_eq_none_iff.1 hRi
    rw [List.getElem?_eq_none (by omega)]
    rfl
  | some b => rw [hq i b hRi]; rfl

theorem open_man {H : Type} {enc : TypeId × Value → H} {w : World} {r : Reach} {b0 : Nat} {v : Value} {d : DataW H} {p : List MemPlace}
    (hv : Value.okWide Try.prog w r b0 25 v) (h : DataW.Trod enc Try.prog w 0 (fun _ => true) true 25 v d p) :
    ∃ (R : List UInt8) (t : Int) (s : ByteArray), v = .agg (mC R t s) ∧ R.length = 32 ∧ -9223372036854775808 ≤ t ∧ t ≤ 9223372036854775807 ∧ s.size ≤ maxLen := by
  obtain ⟨cs, rfl, hsz⟩ := okWide_struct Try.underlying25 hv
  obtain ⟨fuel, hf⟩ := h
  obtain ⟨y0, y1, y2, n, _, hl, h0, h1, h2⟩ := trod_struct3 Try.underlying25 hf
  rw [cells_man] at hl hsz
  obtain ⟨xs, m, _, _, hcl, hxl, hel⟩ := DataW.trod_array Try.underlying23 h0
  obtain ⟨t, e1, _, hwt⟩ := DataW.trod_int Try.underlying2 h1
  obtain ⟨s, e2, _, hs⟩ := DataW.trod_string Try.underlying9 h2
  obtain ⟨ls⟩ := cs
  simp only [Value.cells, cells_id, cells_i64, cells_str, cells_u8, List.drop_zero] at hl h0 hcl hel e1 e2
  have hls : ls.length = 34 := by simpa using hl
  obtain ⟨R, hR, hRe⟩ := bytes_of (cs := ls.take 32) 32 (by rw [List.length_take]; omega) (fun i hi => by
    have hx := hel i hi
    rw [Nat.mul_one] at hx
    have hxi : xs[i]? = some xs[i] := List.getElem?_eq_getElem (by omega)
    rw [hxi] at hx
    obtain ⟨k, ek, _, hwk⟩ := DataW.trod_int Try.underlying5 hx
    have hb := wfb_u8 hwk
    refine ⟨UInt8.ofNat k.toNat, ?_⟩
    have hi0 : ((ls.take 32).drop i).take 1 = [Value.int .u8 k] := ek
    have : (ls.take 32)[i]? = some (Value.int .u8 k) := by
      have h2 := congrArg (fun l => l[0]?) hi0
      simpa [List.getElem?_take, hi] using h2
    rw [this, b8_ofNat]
    congr 2
    omega)
  have hb := wfb_i64 hwt
  refine ⟨R, t, s, ?_, hR, hb.1, hb.2, hs⟩
  congr 1
  unfold mC
  congr 1
  have h3 : ls = ls.take 32 ++ ((ls.drop 32).take 1 ++ (ls.drop 33).take 1) := by
    have e3 : (ls.drop 33).take 1 = ls.drop 33 := List.take_of_length_le (by rw [List.length_drop]; omega)
    have e4 : (ls.drop 32).take 1 ++ ls.drop 33 = ls.drop 32 := by
      have := List.take_append_drop 1 (ls.drop 32)
      rwa [List.drop_drop] at this
    rw [e3, e4, List.take_append_drop]
  have e1' : (ls.drop 32).take 1 = [.int .i64 t] := e1
  have e2' : (ls.drop 33).take 1 = [.string s] := e2
  rw [h3, hRe, e1', e2']
  rfl

end Go.Proofs.Ytebnmpgoiedicaa
