/-
  How a name of 32 bytes that came in is opened.
-/
import Derived.Test.YtgdbdhfomlkpdaaIdv
import Derived.Test.YtgdbdhfomlkpdaaOpen
import Derived.Deep.Strs
namespace Go.Proofs.Ytgdbdhfomlkpdaa
open Go.ChangeShapes Go.WideShapes Go.ChangeAt Go.RowKit Go.Deep

theorem cells_id : Try.prog.cellsOf 31 = 32 := by kernel_rfl
theorem cells_u8 : Try.prog.cellsOf 5 = 1 := by kernel_rfl
theorem bytes_of {cs : List Value} : ∀ (n : Nat), cs.length = n → (∀ i, i < n → ∃ b : UInt8, cs[i]? = some (b8 b)) → ∃ R : List UInt8, R.length = n ∧ cs = R.map b8 := by
  intro n hn h
  obtain ⟨R, hR, hq⟩ : ∃ R : List UInt8, R.length = n ∧ ∀ (i : Nat) (b : UInt8), R[i]? = some b → cs[i]? = some (b8 b) := by
    clear hn
    induction n with
    | zero => exact ⟨[], rfl, fun i b hb => by simp at hb⟩
    | succ n ih =>
      obtain ⟨R, hR, hq⟩ := ih fun i hi => h i (by omega)
      obtain ⟨b, hb⟩ := h n (by omega)
      refine ⟨R ++ [b], by simp [hR], fun i c hc => ?_⟩
      by_cases hi : i < n
      · rw [List.getElem?_append_left (by omega)] at hc
        exact hq i c hc
      · by_cases hin : i = n
        · subst hin
          rw [List.getElem?_append_right (by omega), hR, Nat.sub_self] at hc
          simp at hc
          subst hc
          exact hb
        · rw [List.getElem?_eq_none (by simp; omega)] at hc
          cases hc
  refine ⟨R, hR, List.ext_getElem? fun i => ?_⟩
  rw [List.getElem?_map]
  cases hRi : R[i]? with
  | none =>
    have := List.getElem?_eq_none_iff.1 hRi
    rw [List.getElem?_eq_none (by omega)]
    rfl
  | some b => rw [hq i b hRi]; rfl
/-- 32 cells that read as an array of bytes. -/
theorem id_cells {H : Type} {enc : TypeId × Value → H} {w : World} {fuel : Nat} {ls : List Value} {x : DataW H × List MemPlace} (hls : ls.length = 32)
    (h : DataW.trod enc Try.prog w 0 (fun _ => true) true fuel 31 ls = some x) : ∃ R : List UInt8, R.length = 32 ∧ ls = R.map b8 := by
  obtain ⟨xs, m, _, _, hcl, hxl, hel⟩ := DataW.trod_array Try.underlying31 h
  simp only [cells_u8] at hcl hel
  exact bytes_of 32 hls (fun i hi => by
    have hx := hel i hi
    rw [Nat.mul_one] at hx
    have hxi : xs[i]? = some xs[i] := List.getElem?_eq_getElem (by omega)
    rw [hxi] at hx
    obtain ⟨k, ek, _, hwk⟩ := DataW.trod_int Try.underlying5 hx
    have hb := wfb_u8 hwk
    refine ⟨UInt8.ofNat k.toNat, ?_⟩
    have hi0 : (ls.drop i).take 1 = [Value.int .u8 k] := ek
    have : ls[i]? = some (Value.int .u8 k) := by
      have h2 := congrArg (fun l => l[0]?) hi0
      simpa [List.getElem?_take, List.getElem?_drop] using h2
    rw [this, b8_ofNat]
    congr 2
    omega)
theorem open_id {H : Type} {enc : TypeId × Value → H} {w : World} {r : Reach} {b0 : Nat} {v : Value} {d : DataW H} {p : List MemPlace}
    (hv : Value.okWide Try.prog w r b0 31 v) (h : DataW.Trod enc Try.prog w 0 (fun _ => true) true 31 v d p) :
    ∃ R : List UInt8, v = .agg (idA R) ∧ R.length = 32 := by
  simp only [Value.okWide, Try.underlying31] at hv
  obtain ⟨cs, rfl, hsz, _⟩ := hv
  obtain ⟨fuel, hf⟩ := h
  rw [cells_id] at hsz
  obtain ⟨ls⟩ := cs
  have hls : ls.length = 32 := by simpa using hsz
  obtain ⟨R, hR, rfl⟩ := id_cells (ls := ls) hls hf
  exact ⟨R, rfl, hR⟩

end Go.Proofs.Ytgdbdhfomlkpdaa
