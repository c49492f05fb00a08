/-
  How a target that came in is opened: a slice of strings, a slice of parameters.
-/
import Derived.Test.YteldghiejmpknaaDoorTaT
import Derived.Test.YteldghiejmpknaaDoorOpen
import Derived.Lib.SmallJoins
import Derived.Deep.Strs
import Derived.Deep.SlicePairs
import Derived.SliceStrings
namespace Go.Proofs.YteldghiejmpknaaDoor
open Go.ChangeShapes Go.WideShapes Go.ChangeAt Go.RowKit Go.Deep

theorem choose_l {α : Type} {Q : Nat → α → Prop} : ∀ (n : Nat), (∀ i, i < n → ∃ r, Q i r) → ∃ ll : List α, ll.length = n ∧ ∀ (i : Nat) r, ll[i]? = some r → Q i r
  | 0, _ => ⟨[], rfl, fun i r h => by simp at h⟩
  | n + 1, h => by
    obtain ⟨ll, hl, hq⟩ := choose_l n fun i hi => h i (by omega)
    obtain ⟨r, hr⟩ := h n (by omega)
    refine ⟨ll ++ [r], by simp [hl], fun i x hx => ?_⟩
    by_cases hi : i < n
    · rw [List.getElem?_append_left (by omega)] at hx
      exact hq i x hx
    · have hlt := (List.getElem?_eq_some_iff.1 hx).1
      simp at hlt
      obtain rfl : i = n := by omega
      rw [List.getElem?_append_right (by omega), hl, Nat.sub_self] at hx
      obtain rfl : r = x := by simpa using hx
      exact hr
theorem cells_st : Tryd.prog.cellsOf 9 = 1 := by kernel_rfl
theorem cells_pr : Tryd.prog.cellsOf 32 = 2 := by kernel_rfl
theorem cells_tgt : Tryd.prog.cellsOf 26 = 2 := by kernel_rfl
theorem cells_ss : Tryd.prog.cellsOf 23 = 1 := by kernel_rfl
theorem cells_ps : Tryd.prog.cellsOf 24 = 1 := by kernel_rfl
theorem strs_of {H : Type} {enc : TypeId × Value → H} {w : World} {fuel : Nat} {cs : List Value} {x : DataW H × List MemPlace}
    (hf : DataW.trod enc Tryd.prog w 0 (fun _ => true) true fuel 23 cs = some x) : ∃ (A : Option Addr) (n c : Nat) (P : List (List UInt8)), cs = [.slice A n c] ∧ Ss w A n c P := by
  rcases open_strings Tryd.underlying23 Tryd.underlying9 cells_st hf with ⟨hcs, _⟩ | ⟨a, l, c, ss, hcs, _, hl, hm, hsl, _, hel, _⟩
  · exact ⟨none, 0, 0, [], hcs, Rd.nil_ w 1⟩
  · have hsl' : ss.length = c := by simpa using hsl
    refine ⟨some a, l, c, (ss.take l).map (·.data.toList), hcs, ⟨by simp; omega, hl, hm, (fun h => by cases h), fun j v hv => ?_⟩⟩
    rw [List.map_map, List.getElem?_map] at hv
    obtain ⟨s, hs, rfl⟩ := Option.map_eq_some_iff.1 hv
    rw [List.getElem?_take] at hs
    split at hs
    · have hj := (List.getElem?_eq_some_iff.1 hs).1
      have := hel j hj
      rw [at_some, this]
      rw [List.getD_eq_getElem?_getD, hs]
      cases s
      simp [strV]
    · cases hs
theorem prms_of {H : Type} {enc : TypeId × Value → H} {w : World} {fuel : Nat} {cs : List Value} {x : DataW H × List MemPlace}
    (hf : DataW.trod enc Tryd.prog w 0 (fun _ => true) true fuel 24 cs = some x) : ∃ (A : Option Addr) (n c : Nat) (Q : List Pm), cs = [.slice A n c] ∧ Ps w A n c Q := by
  rcases open_slice_pairs Tryd.underlying24 Tryd.underlying32 cells_pr rfl rfl cells_st cells_st hf with ⟨hcs, _⟩ | ⟨x, l, c, m, n, V0, V1, D0, D1, P0, P1, hcs, _, hl, hm, hmm, _, hel⟩
  · exact ⟨none, 0, 0, [], hcs, Rd.nil_ w 2⟩
  · obtain ⟨ll, hll, hq⟩ := choose_l (Q := fun i (y : Pm) => w.cell? (at_ (some x) (i * 2)) = some (strV y.1) ∧ w.cell? (at_ (some x) (i * 2 + 1)) = some (strV y.2)) l fun i hi => by
      obtain ⟨h0, h1, t0, t1⟩ := hel i (by simp at hmm; omega)
      obtain ⟨s0, e0, _, _⟩ := DataW.trod_string Tryd.underlying9 t0
      obtain ⟨s1, e1, _, _⟩ := DataW.trod_string Tryd.underlying9 t1
      have e0' : V0 i = .string s0 := by simpa using e0
      have e1' : V1 i = .string s1 := by simpa using e1
      rw [e0'] at h0
      rw [e1'] at h1
      refine ⟨(s0.data.toList, s1.data.toList), ?_, ?_⟩
      · rw [at_some, h0]
        cases s0
        simp [strV]
      · rw [at_some, h1]
        cases s1
        simp [strV]
    refine ⟨some x, l, c, ll, hcs, ⟨by rw [prL_len, hll], hl, hm, (fun h => by cases h), fun j v hv => ?_⟩⟩
    have hjl : j < ll.length * 2 := by rw [← prL_len]; exact (List.getElem?_eq_some_iff.1 hv).1
    have hi : j / 2 < ll.length := by omega
    have hx : ll[j / 2]? = some ll[j / 2] := List.getElem?_eq_getElem hi
    obtain ⟨a0, a1⟩ := prL_at ll _ _ hx
    obtain ⟨b0, b1⟩ := hq _ _ hx
    by_cases hj : j % 2 = 0
    · have e : j = j / 2 * 2 := by omega
      rw [e] at hv ⊢
      rw [a0] at hv
      obtain rfl := Option.some.inj hv
      exact b0
    · have e : j = j / 2 * 2 + 1 := by omega
      rw [e] at hv ⊢
      rw [a1] at hv
      obtain rfl := Option.some.inj hv
      exact b1
theorem open_tg {H : Type} {enc : TypeId × Value → H} {w : World} {r : Reach} {b0 : Nat} {v : Value} {d : DataW H} {p : List MemPlace}
    (hv : Value.okWide Tryd.prog w r b0 26 v) (h : DataW.Trod enc Tryd.prog w 0 (fun _ => true) true 26 v d p) :
    ∃ (A : Option Addr) (n c : Nat) (P : List (List UInt8)) (B : Option Addr) (m d' : Nat) (Q : List Pm), v = .agg (tgA A n c B m d') ∧ Ss w A n c P ∧ Ps w B m d' Q := by
  obtain ⟨cs, rfl, hsz⟩ := okWide_struct Tryd.underlying26 hv
  obtain ⟨fuel, hf⟩ := h
  obtain ⟨y0, y1, n, _, hl, h0, h1⟩ := trod_struct2 Tryd.underlying26 hf
  rw [cells_tgt] at hl hsz
  obtain ⟨A, n, c, P, e0, hS⟩ := strs_of h0
  obtain ⟨B, m, d', Q, e1, hQ⟩ := prms_of h1
  obtain ⟨ls⟩ := cs
  simp only [Value.cells, cells_ss, cells_ps, List.drop_zero] at hl h0 e0 e1
  have hls : ls.length = 2 := by simpa using hl
  refine ⟨A, n, c, P, B, m, d', Q, ?_, hS, hQ⟩
  congr 1
  unfold tgA
  congr 1
  match ls, hls with
  | [x, y], _ =>
    simp at e0 e1
    rw [e0, e1]

end Go.Proofs.YteldghiejmpknaaDoor
