/-
  The laws' own begun and light.
-/
import Derived.Test.YteldghiejmpknaaDoorTaU
import Derived.Test.YteldghiejmpknaaDoorTaQ
import Derived.Test.YteldghiejmpknaaDoorShap
namespace Go.Proofs.YteldghiejmpknaaDoor
open Go.RowKit

theorem mx_of {w : World} (h : w.ShapedOpen Tryd.checked.prog) : Mx w :=
  Go.Proofs.cell_of_shapedOpen_int (zero := #[.int .i64 0]) (t := 3) h (of_decide_eq_true (by kernel_rfl)) (by kernel_rfl) rfl (by kernel_rfl) (by kernel_rfl) Tryd.underlying3
def begL : List UInt8 := [47, 116, 47, 97, 37, 50, 70, 98, 63, 120, 61, 37, 50, 48, 38, 121, 61]
def begP : List (List UInt8) := [[116], [97, 47, 98]]
def begQ : List Pm := [([120], [32]), ([121], [])]
theorem beg_path : pathF (cut1 63 begL).1 = some begP := by decide +kernel
theorem beg_query : queryF (cut1 63 begL).2.1 = some begQ := by decide +kernel
theorem beg_found : (cut1 63 begL).2.2 = true := by decide +kernel
theorem beg_may : mayF begP begQ = true := by
  refine mayF_yes ⟨?_, ?_⟩
  · unfold GoodP
    decide
  · intro k q hq
    match k, hq with
    | 0, hq =>
      obtain rfl := Option.some.inj hq
      exact ⟨by decide, by decide, by decide, fun j p hj => by omega⟩
    | 1, hq =>
      obtain rfl := Option.some.inj hq
      refine ⟨by decide, by decide, by decide, fun j p hj hp => ?_⟩
      obtain rfl : j = 0 := by omega
      obtain rfl := Option.some.inj hp
      decide
    | k + 2, hq => simp [begQ] at hq
theorem beg_parse : parseF begL = (begP, begQ, 0) := by
  unfold parseF
  rw [beg_path]
  unfold contEnd
  rw [beg_found]
  unfold contQ
  rw [beg_query]
  unfold finF
  simp [beg_may]
theorem beg_print : printR begP begQ = (begL, 0) := by
  unfold printR
  rw [beg_may]
  rw [if_pos rfl, show printF begP begQ = begL by decide +kernel]
theorem beg_get : getF begQ [120] = ([32], true) := by decide

set_option maxRecDepth 20000 in
set_option maxHeartbeats 8000000 in
theorem begun_any (w : World) (hm : Mx w) : Calls Tryd.prog 8 #[] w fun e w' => e = .returned (.bool true) ∧ Below w.heap.size w w' := by
  have HL := Lib.hid (Parse_any begL (by decide) w hm)
  unfold Parsed at HL
  rw [beg_parse] at HL
  unfold begL at HL
  have HPR := Lib.hid beg_print
  clear hm
  go_enter Tryd.func8, Tryd.ntmps8
  go_wp2_with fail
  refine HL.out.mono ?_
  rintro e w1 ⟨hb1, A, n, c, B, m, d, rfl, hoA, hoB⟩
  obtain rfl : 2 = n := by simpa [begP] using hoA.rd.len
  obtain rfl : 2 = m := by have := hoB.rd.len; simp [begQ, prL] at this; omega
  have hS := hoA.rd
  have hQ : Ps w1 B 2 d begQ := hoB.rd
  clear hoA hoB HL
  go_upto_region 2 with (first
    | (refine wpList_alloc_zero rfl _ rfl tgZ zero_tg ?_; intro w2 hg2 hb2 hz2; clear hz2)
    | (refine wpList_store_all rfl _ _ _ rfl w1.heap.size rfl _ tgZ (tgA A 2 c B 2 d) rfl hg2 size_tg rfl tg_one ?_; intro w3 hg3 hgr3 hz3; clear hz3))
  have hb13 : Below w1.heap.size w1 w3 := hb2.grown hgr3 hb2.size (fun g hg => by obtain rfl := Option.some.inj hg; exact Nat.le_refl _)
  have hb3 := hb1.trans (hb13.mono hb1.size)
  have hlt3 : w1.heap.size < w3.heap.size := (Array.getElem?_eq_some_iff.1 hg3).1
  have hS3 := Rd.below hS hb13
  have hQ3 := hQ.below hb13
  have HP := Lib.hid (Print_any hS3 hQ3 (by unfold begP; decide) (by unfold begQ; decide) (by omega) (by omega))
  rw [HPR.out] at HP
  unfold begL at HP
  clear hg2 hb2 hgr3 hb13 hS hQ
  go_wp2_with (refine wpList_load_all (by rfl) _ _ rfl w1.heap.size rfl _ _ _ _ hg3 Tryd.underlying26 rfl size_tg ?_)
  refine HP.out.mono ?_
  rintro e w4 ⟨rfl, hbl4⟩
  have hb4 := hb3.trans (hbl4.mono hb3.size)
  have hg4 := (hbl4.block _ hlt3).trans hg3
  have hlt4 : w1.heap.size < w4.heap.size := Nat.lt_of_lt_of_le hlt3 hbl4.size
  have hS4 := Rd.below hS3 hbl4
  have hQ4 := hQ3.below hbl4
  have HG := Lib.hid (Get_any (A := A) (n := 2) (c := c) hQ4 (by omega) [120])
  unfold Gotten at HG
  rw [beg_get] at HG
  clear hg3 hbl4 hS3 hQ3 HP HPR
  go_wp2_with (refine wpList_load_all (by rfl) _ _ rfl w1.heap.size rfl _ _ _ _ hg4 Tryd.underlying26 rfl size_tg ?_)
  refine HG.out.mono ?_
  rintro e w5 ⟨rfl, hbl5⟩
  have hb5 := hb4.trans (hbl5.mono hb4.size)
  have hg5 := (hbl5.block _ hlt4).trans hg4
  have hS5 := Rd.below hS4 hbl5
  obtain ⟨hc0, hc1⟩ := cell_tg hg5
  have hidx := run_index_rd (P := Tryd.prog) (A := A) (n := 2) (c := c) es hS5.nil hS5.le 1 (by omega)
  rw [Nat.mul_one, show ((1 : Nat) : Int) = 1 from rfl] at hidx
  have hcell := Rd.cell hS5 1 (strV [97, 47, 98]) rfl
  unfold strV at hcell
  clear hg4 hbl5 hS4 hQ4 HG hg5
  go_wp2_with fail
  go_ret
  exact ⟨rfl, hb5⟩

def LightP (n m : Nat) (P : List (List UInt8)) (Q : List Pm) : Prop := n ≤ 20 ∧ m ≤ 20 ∧ (∀ p ∈ P, p.length ≤ 200) ∧ ∀ q ∈ Q, q.1.length ≤ 200 ∧ q.2.length ≤ 200

set_option maxRecDepth 20000 in
set_option maxHeartbeats 8000000 in
theorem light_any {w : World} {A B : Option Addr} {n c m d : Nat} {P : List (List UInt8)} {Q : List Pm} (hS : Ss w A n c P) (hQ : Ps w B m d Q) :
    Calls Tryd.prog 12 #[.agg (tgA A n c B m d)] w fun e w' => (∃ z, e = .returned (.bool z) ∧ (z = true → LightP n m P Q)) ∧ Below w.heap.size w w' := by
  have hPl : P.length = n := by have := Rd.len hS; simpa using this
  have HPL := Lib.hid hPl
  have HQL := Lib.hid hQ.len
  have HS := Lib.hid hS
  have HQ := Lib.hid hQ
  have hnil := Rd.nil hS
  have hle := Rd.le hS
  clear hPl hS hQ
  by_cases hn : (20 : Int) < n
  · have hn' : decide ((20 : Int) < n) = true := decide_eq_true hn
    clear hn
    go_enter Tryd.func12, Tryd.ntmps12
    go_upto_region 1 with (refine wpList_box rfl _ _ rfl (tgA A n c B m d) rfl ?_; intro w1 hg1 hb1 hz1; clear hz1)
    obtain ⟨hc0, hc1⟩ := cell_tg hg1
    go_wp2_with fail
    go_ret
    exact ⟨⟨false, rfl, fun h => by cases h⟩, hb1⟩
  have hn' : decide ((20 : Int) < n) = false := decide_eq_false hn
  have hn2 : n ≤ 20 := by omega
  by_cases hm : (20 : Int) < m
  · have hm' : decide ((20 : Int) < m) = true := decide_eq_true hm
    clear hm hn
    go_enter Tryd.func12, Tryd.ntmps12
    go_upto_region 1 with (refine wpList_box rfl _ _ rfl (tgA A n c B m d) rfl ?_; intro w1 hg1 hb1 hz1; clear hz1)
    obtain ⟨hc0, hc1⟩ := cell_tg hg1
    go_wp2_with fail
    go_ret
    exact ⟨⟨false, rfl, fun h => by cases h⟩, hb1⟩
  have hm' : decide ((20 : Int) < m) = false := decide_eq_false hm
  have hm2 : m ≤ 20 := by omega
  clear hn hm
  go_enter Tryd.func12, Tryd.ntmps12
  go_upto_region 1 with (refine wpList_box rfl _ _ rfl (tgA A n c B m d) rfl ?_; intro w1 hg1 hb1 hz1; clear hz1)
  have hBOX : ∀ W, Below w1.heap.size w1 W → W.cell? ⟨w.heap.size, 0, none⟩ = some (.slice A n c) ∧ W.cell? ⟨w.heap.size, 1, none⟩ = some (.slice B m d) := fun W hW => cell_tg ((hW.block _ (Array.getElem?_eq_some_iff.1 hg1).1).trans hg1)
  have HBOX := Lib.hid hBOX
  have hbw : ∀ W, Below w1.heap.size w1 W → Below w.heap.size w W := fun W hW => hb1.trans (hW.mono hb1.size)
  have HBW := Lib.hid hbw
  obtain ⟨hc0, hc1⟩ := hBOX w1 (Below.refl _ _)
  clear hg1 hBOX hbw
  go_wp2_with fail
  clear hc0 hc1
  go_loopw [3, 4] (fun v i wr => ∃ (k : Nat) (V : Int), k ≤ n ∧ i = .int .i64 k ∧ v = .int .i64 V ∧ Below w1.heap.size w1 wr ∧ Hid (∀ (j : Nat) p, j < k → P[j]? = some p → (p.length : Int) ≤ V)) (fun _ i _ => n - (intOf i).toNat)
  case atStart => exact ⟨0, 0, by omega, rfl, rfl, Below.refl _ _, (show ∀ (j : Nat) p, j < 0 → _ from fun j p h => absurd h (by omega))⟩
  case round =>
    obtain ⟨k, V, hk, rfl, rfl, hb, hH⟩ := hrel
    obtain ⟨hc0, hc1⟩ := HBOX.out wr hb
    by_cases hkn : k < n
    · have hx : P[k]? = some (P[k]'(by rw [HPL.out]; exact hkn)) := List.getElem?_eq_getElem _
      generalize P[k]'(by rw [HPL.out]; exact hkn) = p at hx
      have hidx := run_index_rd (P := Tryd.prog) (A := A) (n := n) (c := c) es hnil hle k hkn
      rw [Nat.mul_one] at hidx
      have hcell := Rd.cell (Rd.below HS.out (HBW.out wr hb)) k (strV p) (by rw [List.getElem?_map, hx]; rfl)
      unfold strV at hcell
      have hk' : (k : Int) < n := by omega
      have hsz := size_mk p
      have HX := Lib.hid hx
      clear hx hkn hc1
      have hnx : ∀ V' : Int, V ≤ V' → (p.length : Int) ≤ V' → ∀ (j : Nat) q, j < k + 1 → P[j]? = some q → (q.length : Int) ≤ V' := fun V' hV1 hV2 j q hj hg => by
        by_cases hjk : j < k
        · exact Int.le_trans (hH.out j q hjk hg) hV1
        · obtain rfl : j = k := by omega
          rw [HX.out] at hg
          obtain rfl := Option.some.inj hg
          exact hV2
      have HNX := Lib.hid hnx
      clear hnx hH
      go_wp2_with fail
      all_goals
        go_roundw
        case rel => exact ⟨k + 1, _, by omega, by go_num, rfl, hb, HNX.out _ (by omega) (by omega)⟩
        case measure => simp [intOf]; omega
    · obtain rfl : k = n := by omega
      clear hkn
      have HPV : Hid (∀ p ∈ P, (p.length : Int) ≤ V) := fun p hp => by
        obtain ⟨j, hj⟩ := List.mem_iff_getElem?.1 hp
        exact hH.out j p (by rw [← HPL.out]; exact (List.getElem?_eq_some_iff.1 hj).1) hj
      clear hH
      go_wp2_with fail
      clear hc0 hc1
      go_loopw [3, 5] (fun v i wr => ∃ (l : Nat) (U : Int), l ≤ m ∧ i = .int .i64 l ∧ v = .int .i64 U ∧ Below w1.heap.size w1 wr ∧ V ≤ U ∧ Hid (∀ (j : Nat) q, j < l → Q[j]? = some q → (q.1.length : Int) ≤ U ∧ (q.2.length : Int) ≤ U)) (fun _ i _ => m - (intOf i).toNat)
      case atStart => exact ⟨0, V, by omega, rfl, rfl, hb, by omega, (show ∀ (j : Nat) q, j < 0 → _ from fun j p h => absurd h (by omega))⟩
      case round =>
        obtain ⟨l, U, hl, rfl, rfl, hb, hVU, hH⟩ := hrel
        obtain ⟨hc0, hc1⟩ := HBOX.out wr hb
        by_cases hlm : l < m
        · have hx : Q[l]? = some (Q[l]'(by rw [HQL.out]; exact hlm)) := List.getElem?_eq_getElem _
          generalize Q[l]'(by rw [HQL.out]; exact hlm) = q at hx
          have hQr := HQ.out.below (HBW.out wr hb)
          have hidx := fun W => hQr.idx hlm W
          have hd0 := hQr.name hx
          have hd1 := hQr.value hx
          obtain ⟨x, y⟩ := q
          dsimp only at hd0 hd1
          unfold strV at hd0 hd1
          have hd1' : wr.cell? ⟨(at_ B (l * 2)).block, (at_ B (l * 2)).off + 1, none⟩ = some (.string ⟨y.toArray⟩) := by rw [show (⟨(at_ B (l * 2)).block, (at_ B (l * 2)).off + 1, none⟩ : Addr) = (at_ B (l * 2)).add 1 from rfl, at_add2]; exact hd1
          have hl' : (l : Int) < m := by omega
          have hsx := size_mk x
          have hsy := size_mk y
          have HX := Lib.hid hx
          clear hx hlm hQr hc0
          go_upto_region 11 with fail
          have hnx : ∀ U' : Int, U ≤ U' → (x.length : Int) ≤ U' → (y.length : Int) ≤ U' → ∀ (j : Nat) q, j < l + 1 → Q[j]? = some q → (q.1.length : Int) ≤ U' ∧ (q.2.length : Int) ≤ U' := fun U' hU1 hU2 hU3 j q hj hg => by
            by_cases hjl : j < l
            · have := hH.out j q hjl hg
              omega
            · obtain rfl : j = l := by omega
              rw [HX.out] at hg
              obtain rfl := Option.some.inj hg
              exact ⟨hU2, hU3⟩
          have HNX := Lib.hid hnx
          clear hnx hH
          go_quiet (fail)
          all_goals
            have hb9 := below_drewN hb nq
            go_wp2_with fail
          all_goals
            go_roundw
            case rel => exact ⟨l + 1, _, by omega, by go_num, rfl, hb9, by omega, HNX.out _ (by omega) (by omega) (by omega)⟩
            case measure => simp [intOf]; omega
        · obtain rfl : l = m := by omega
          have hbq := HBW.out wr hb
          clear hlm hc0
          go_wp2_with fail
          go_ret
          refine ⟨⟨_, rfl, fun h => ?_⟩, hbq⟩
          have hU : U ≤ 200 := by simpa using h
          refine ⟨hn2, hm2, fun p hp => ?_, fun q hq => ?_⟩
          · have := HPV.out p hp
            omega
          · obtain ⟨j, hj⟩ := List.mem_iff_getElem?.1 hq
            have := hH.out j q (by rw [← HQL.out]; exact (List.getElem?_eq_some_iff.1 hj).1) hj
            omega

end Go.Proofs.YteldghiejmpknaaDoor
