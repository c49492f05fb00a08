/-
  FolderWrites.
-/
import Derived.Test.YtgdbdhfomlkpdaaFoN
import Derived.Test.YtgdbdhfomlkpdaaFoH
import Derived.Test.YtgdbdhfomlkpdaaFoO
import Derived.Test.YtgdbdhfomlkpdaaRoom
namespace Go.Proofs.Ytgdbdhfomlkpdaa
open Go.RowKit

theorem made_it (k : Nat) : (madeCells (Value.agg (itA itZ)).cells (k * 35)).toList = itsL (List.replicate k itZ) := by
  have hok : ∀ x ∈ List.replicate k itZ, ItOk x := fun x hx => by
    obtain ⟨_, rfl⟩ := List.mem_replicate.1 hx
    exact itZ_ok
  have hl := its_len hok
  rw [List.length_replicate] at hl
  apply List.ext_getElem?
  intro j
  by_cases hj : j < k * 35
  · have hi : j / 35 < k := by omega
    have hx : (List.replicate k itZ)[j / 35]? = some itZ := by simp [hi]
    have e : j = j / 35 * 35 + j % 35 := by omega
    have h1 := its_at hok hx (j := j % 35) (by omega)
    rw [← e] at h1
    rw [h1]
    have hs : (Value.agg (itA itZ)).cells.size = 35 := by simp [Value.cells, itA_size itZ_ok]
    have hb : j % 35 < (itA itZ).size := by rw [itA_size itZ_ok]; omega
    simp only [madeCells, Array.getElem?_toList, Array.getElem?_map, Array.getElem?_range, hj, if_true, Option.map_some, hs]
    have h2 : (itL itZ)[j % 35]? = some ((itA itZ)[j % 35]) := by
      rw [← Array.getElem?_eq_getElem hb]
      simp [itA]
    rw [h2]
    congr 1
    simp only [Value.cells]
    exact (getElem!_pos (itA itZ) (j % 35) hb)
  · have h1 : (itsL (List.replicate k itZ))[j]? = none := List.getElem?_eq_none (by rw [hl]; omega)
    rw [h1]
    exact List.getElem?_eq_none (by simp [size_madeCells]; omega)
theorem spare_it (n : Nat) : (itsL (List.replicate (n + 2) itZ)).drop (n * 35) = itsL [itZ, itZ] := by
  have hok : ∀ x ∈ List.replicate n itZ, ItOk x := fun x hx => by
    obtain ⟨_, rfl⟩ := List.mem_replicate.1 hx
    exact itZ_ok
  have hl := its_len hok
  rw [List.length_replicate] at hl
  have e : List.replicate (n + 2) itZ = List.replicate n itZ ++ [itZ, itZ] := by rw [← List.replicate_append_replicate]; rfl
  rw [e, its_append, ← hl, List.drop_left]
theorem Its.take {w : World} {A : Option Addr} {n c N : Nat} {l m : List It} (h : Its w A N c (l ++ m)) (hl : l.length = n) : Its w A n c l := by
  have hok : ∀ x ∈ l, ItOk x := fun x hx => h.ok x (by simp [hx])
  have hN := h.len
  rw [List.length_append, hl] at hN
  refine ⟨⟨by rw [its_len hok, hl], by have := h.rd.le; omega, h.rd.max, h.rd.nil, fun j u hu => h.rd.cell j u ?_⟩, hok⟩
  rw [its_append, List.getElem?_append_left (List.getElem?_eq_some_iff.1 hu).1]
  exact hu
theorem light_inv {l : List It} (h : lightL l = true) : l.length ≤ 100 := by
  unfold lightL at h
  rw [Bool.and_eq_true] at h
  exact of_decide_eq_true h.1
theorem decide_self (l : List It) : @decide (l = l) (Classical.propDecidable _) = true := @decide_eq_true _ (Classical.propDecidable _) rfl

set_option maxRecDepth 20000 in
set_option maxHeartbeats 1000000 in
theorem folderWrites_walk {w : World} (A : Option Addr) (n c : Nat) (l : List It) (h : Its w A n c l) :
    Calls Try.prog 3 #[.slice A n c] w fun e w' => e = .returned (.bool true) ∧ Below w.heap.size w w' := by
  have HB := Lib.hid (begun_any w)
  have hl := h.len
  by_cases hL : lightL l = false
  · go_enter Try.func3, Try.ntmps3
    go_wp2_with fail
    refine HB.out.mono ?_
    rintro e w1 ⟨rfl, hb1⟩
    have HLi := Lib.hid (Light_any (h.below hb1))
    rw [hL] at HLi
    clear hL
    go_wp2_with fail
    refine HLi.out.mono ?_
    rintro e w2 ⟨rfl, rfl⟩
    go_wp2_with fail
    go_ret
    exact ⟨rfl, hb1⟩
  have hL' : lightL l = true := by simpa using hL
  have hn100 := light_inv hL'
  have HL := Lib.hid hl
  rw [hl] at hn100
  clear hl hL
  go_enter Try.func3, Try.ntmps3
  go_wp2_with fail
  refine HB.out.mono ?_
  rintro e w1 ⟨rfl, hb1⟩
  have HLi := Lib.hid (Light_any (h.below hb1))
  rw [hL'] at HLi
  clear hL'
  go_wp2_with fail
  refine HLi.out.mono ?_
  rintro e w2 ⟨rfl, rfl⟩
  have h1 := h.below hb1
  go_wp2_with (first
    | (at_make; refine wpList_mk_full (base := w.heap.size) rfl _ _ rfl ei rfl rfl 0 (n + 2) (by omega) (by omega) (by omega) (by omega) (by unfold maxLen; omega) hb1.size ?_; intro w3 ho3 hg3 hz3; have hb3 := hb1.grown hg3 hb1.size (by simp); have h3 := h.below hb3; clear hz3)
    | (at_builtin; refine wpList_app_front rfl _ _ rfl ei ho3 rfl h3.rd rfl (its_one _) (by omega) (by omega) (by unfold maxLen; omega) ?_; intro w4 ho4 hg4 hz4; have hb4 := hb3.grown hg4 hb3.size (fun g hg => (ho3.lt g hg).1); clear hz4))
  rw [made_it, its_len h.ok, HL.out, spare_it, ← its_append] at ho4
  have hX4 : Its w4 (some ⟨w1.heap.size, 0, none⟩) (n + 2) (n + 2) (l ++ [itZ, itZ]) := ⟨ho4.rd, fun x hx => by
    rcases List.mem_append.1 hx with hx | hx
    · exact h.ok x hx
    · have hxz : x = itZ := by simpa using hx
      exact hxz ▸ itZ_ok⟩
  have h4 := h.below hb4
  clear ho3 ho4 hg3 hg4 h1 h3 hb3
  obtain ⟨X, hXe⟩ : ∃ X : Option Addr, X = some ⟨w1.heap.size, 0, none⟩ := ⟨_, rfl⟩
  rw [← hXe] at hX4
  go_loopw [4] (fun i wr => ∃ j : Nat, j ≤ 2 ∧ i = .int .i64 j ∧ Below w4.heap.size w4 wr) (fun i _ => 2 - (intOf i).toNat)
  case atStart => exact ⟨0, by omega, rfl, Below.refl _ _⟩
  case round =>
    obtain ⟨j, hj, rfl, hbr⟩ := hrel
    by_cases hjn : j < 2
    · have hXr := hX4.below hbr
      have hlr := h4.below hbr
      have hxr : Its wr X n (n + 2) l := hXr.take HL.out
      rw [hXe] at hxr
      have e4 : w4.heap.size ≤ wr.heap.size := hbr.size
      go_wp2_with fail
      refine (Bytes_any hxr).mono ?_
      rintro e w5 ⟨A5, n5, c5, rfl, ho5, hbl5⟩
      go_wp2_with fail
      refine (RBytes_any (hlr.below hbl5)).mono ?_
      rintro e w6 ⟨A6, n6, c6, rfl, ho6, hbl6⟩
      have hb56 := hbl5.trans (hbl6.mono hbl5.size)
      have ho56 := ho5.below hbl6
      have hs5 := str_rd ho56.rd
      have hs6 := str_rd ho6.rd
      clear hbl5 hbl6 ho5
      go_wp2_with fail
      refine (May_any (hxr.below hb56)).mono ?_
      rintro e w7 ⟨rfl, hbl7⟩
      have hb57 := hb56.trans (hbl7.mono hb56.size)
      have ho57 := ho56.below hbl7
      clear hs5 hs6 ho6 ho56 hbl7 hb56
      go_wp2_with fail
      refine (RMay_any (hlr.below hb57)).mono ?_
      rintro e w8 ⟨rfl, hbl8⟩
      have hb58 := hb57.trans (hbl8.mono hb57.size)
      have ho58 := ho57.below hbl8
      clear ho57 hbl8 hb57
      go_wp2_with fail
      refine (Alike_any (hxr.below hb58) (hlr.below hb58)).mono ?_
      rintro e w9 ⟨rfl, hbl9⟩
      rw [decide_self]
      have hb59 := hb58.trans (hbl9.mono hb58.size)
      have ho59 := ho58.below hbl9
      have hX9 := hXr.below hb59
      have hsl := run_slice_h_rd (P := Try.prog) (A := X) (n := n) (c := n + 2) ei (kh := .i64) (n + 2) (H := (n : Int) + 2) (by omega) (by omega)
      have hidx := run_index_rd (P := Try.prog) (A := X) (n := n + 2) (c := n + 2) ei hX9.rd.nil (Nat.le_refl _) n (by omega)
      have hld := hX9.load (k := n) (x := itZ) (by rw [← HL.out, List.getElem?_append_right (Nat.le_refl _), Nat.sub_self]; rfl)
      rw [hXe] at hsl hidx hld
      clear ho58 hbl9 hb58
      go_wp2_with (first
        | (refine wpList_load_run (by rfl) _ _ rfl _ rfl _ hld ?_)
        | (refine wpList_build_run (by rfl) _ _ rfl #[] (by rfl) _ (build_it0 _) ?_)
        | (refine wpList_neq_it (by rfl) _ _ rfl itZ_ok itZ_ok (by rfl) (by rfl) ?_; rw [itEq_self]))
      have hb49 := hbr.trans (hb59.mono hbr.size)
      clear hsl hidx hld hX9 hXr hlr hxr hX4 h4
      refine (Spoil_any wr.heap.size A5 n5 c5 _ _ ho59).mono ?_
      rintro e wa ⟨rfl, hga, hza⟩
      have hbC := hb49.grown hga hb49.size (fun g hg => Nat.le_trans e4 (ho59.lt g hg).1)
      clear hza hga ho59 e4 hb49 hb59
      go_wp2_with fail
      go_roundw
      case rel => exact ⟨j + 1, by omega, by go_num, hbC⟩
      case measure => simp [intOf]; omega
    · have e : j = 2 := by omega
      subst e
      go_wp2_with fail
      go_ret
      exact ⟨rfl, hb4.trans (hbr.mono hb4.size)⟩

end Go.Proofs.Ytgdbdhfomlkpdaa
