/-
  Joined texts of this claim's author (each began as a text of its own; each says itself what it holds).
-/
import Derived.Test.YtckkmdigmecagaaGreatDoorG12
import Derived.Test.YtckkmdigmecagaaGreatDoorG11
import Derived.Test.YtckkmdigmecagaaGreatDoorG03
import Derived.Test.YtckkmdigmecagaaGreatDoorG02
import Derived.Test.YtckkmdigmecagaaGreatDoorG09
import Derived.Deep.CutRange
import Derived.Deep.CutBlock
import Derived.Test.YtckkmdigmecagaaGreatDoorG07
import Derived.Lib.LaidTab
set_option linter.unusedVariables false
set_option linter.unusedSimpArgs false

/-
  Requests that are asked for: right, Bytes.
-/
namespace Go.Proofs.YtckkmdigmecagaaGreatDoor
open Go.RowKit

def askA (M T : Bs) (D : Option Addr) (nD cD : Nat) (sz : Int) (last : Bool) : Array Value := #[.string ⟨M.toArray⟩, .string ⟨T.toArray⟩, .slice D nD cD, .int .i64 sz, .bool last]
theorem all_yes2 {p : UInt8 → Bool} {l : Bs} (h : ∀ (j : Nat) x, j < l.length → l[j]? = some x → p x = true) : l.all p = true := by
  rw [List.all_eq_true]
  intro x hx
  obtain ⟨j, hj, e⟩ := List.mem_iff_getElem.1 hx
  exact h j x hj (by rw [List.getElem?_eq_getElem hj, e])

def Righted (M T bd : Bs) (w : World) (e : Ending) (w' : World) : Prop := ∃ b, e = .returned (.bool b) ∧ (b = true → okA M T ∧ bd.length ≤ 4096) ∧ Below w.heap.size w w'

set_option maxRecDepth 20000 in
set_option maxHeartbeats 8000000 in
theorem right_any (M T bd : Bs) (sz : Int) (last : Bool) {w : World} {D : Option Addr} {nD cD : Nat} (hD : bd.length = nD) :
    Calls Tryz.prog 18 #[.agg (askA M T D nD cD sz last)] w (Righted M T bd w) := by
  have hsa := size_mk M
  have hsb := size_mk T
  go_enter Tryz.func18, Tryz.ntmps18
  go_upto_region 1 with (refine wpList_box rfl _ _ rfl (askA M T D nD cD sz last) rfl ?_; intro w1 hg1 hb1 hz1; clear hz1)
  have c0 : w1.cell? ⟨w.heap.size, 0, none⟩ = some (.string ⟨M.toArray⟩) := cell_of hg1 rfl
  have c1 : w1.cell? ⟨w.heap.size, 1, none⟩ = some (.string ⟨T.toArray⟩) := cell_of hg1 rfl
  have c2 : w1.cell? ⟨w.heap.size, 2, none⟩ = some (.slice D nD cD) := cell_of hg1 rfl
  have HB := Lib.hid hb1
  clear hg1 hb1
  by_cases h1 : (M.length : Int) < 1
  · have d1 : decide ((M.length : Int) < 1) = true := decide_eq_true h1
    clear h1
    go_wp2_with fail
    go_ret
    exact ⟨false, rfl, (fun h => by cases h), HB.out⟩
  have d1 : decide ((M.length : Int) < 1) = false := decide_eq_false h1
  by_cases h2 : (10 : Int) < M.length
  · have d2 : decide ((10 : Int) < M.length) = true := decide_eq_true h2
    clear h1 h2
    go_wp2_with fail
    go_ret
    exact ⟨false, rfl, (fun h => by cases h), HB.out⟩
  have d2 : decide ((10 : Int) < M.length) = false := decide_eq_false h2
  by_cases h3 : (T.length : Int) < 1
  · have d3 : decide ((T.length : Int) < 1) = true := decide_eq_true h3
    clear h1 h2 h3
    go_wp2_with fail
    go_ret
    exact ⟨false, rfl, (fun h => by cases h), HB.out⟩
  have d3 : decide ((T.length : Int) < 1) = false := decide_eq_false h3
  by_cases h4 : (900 : Int) < T.length
  · have d4 : decide ((900 : Int) < T.length) = true := decide_eq_true h4
    clear h1 h2 h3 h4
    go_wp2_with fail
    go_ret
    exact ⟨false, rfl, (fun h => by cases h), HB.out⟩
  have d4 : decide ((900 : Int) < T.length) = false := decide_eq_false h4
  by_cases h5 : (4096 : Int) < nD
  · have d5 : decide ((4096 : Int) < nD) = true := decide_eq_true h5
    clear h1 h2 h3 h4 h5
    go_wp2_with fail
    go_ret
    exact ⟨false, rfl, (fun h => by cases h), HB.out⟩
  have d5 : decide ((4096 : Int) < nD) = false := decide_eq_false h5
  have hM1 : M.length ≤ 10 := by omega
  have hT1 : T.length ≤ 900 := by omega
  have HOK : Hid (M.all upB = true → T.all viB = true → okA M T ∧ bd.length ≤ 4096) := fun a b => ⟨⟨by omega, by omega, a, by omega, by omega, b⟩, by omega⟩
  clear h1 h2 h3 h4 h5
  go_wp2_with fail
  clear d1 d2 d3 d4 d5 c2
  go_loopw [3] (fun i wr => ∃ k : Nat, k ≤ M.length ∧ i = .int .i64 k ∧ w1 = wr ∧ Hid (∀ (j : Nat) x, j < k → M[j]? = some x → upB x = true)) (fun i _ => M.length - (intOf i).toNat)
  case atStart => exact ⟨0, by omega, rfl, rfl, (show ∀ (j : Nat) x, j < 0 → _ from fun j x h => absurd h (by omega))⟩
  case round =>
    obtain ⟨k, hk, rfl, rfl, hH⟩ := hrel
    by_cases hka : k < M.length
    · have hx : M[k]? = some (M[k]'hka) := List.getElem?_eq_getElem hka
      generalize M[k]'hka = x at hx
      have hi : ∀ W, (Instr.index 9 (.string ⟨M.toArray⟩) (.int .i64 (k : Int))).run Tryz.prog W = .ok (.int .u8 (x.toNat : Int)) W := fun W => run_str_at (P := Tryz.prog) Tryz.underlying9 M k x hx (kl := .i64) W
      have hk' : (k : Int) < M.length := by omega
      have hxb : (x.toNat : Int) ≤ 255 := by have := x.toNat_lt; omega
      rcases up_case x with ⟨c1', hu⟩ | ⟨c1', c2', hu⟩ | ⟨c1', c2', hu⟩
      · have e1 : decide ((x.toNat : Int) < 65) = true := decide_eq_true c1'
        clear hx hka hH c1' hu
        go_wp2_with fail
        go_ret
        exact ⟨false, rfl, (fun h => by cases h), HB.out⟩
      · have e1 : decide ((x.toNat : Int) < 65) = false := decide_eq_false (by omega)
        have e2 : decide (90 < (x.toNat : Int)) = true := decide_eq_true c2'
        clear hx hka hH c1' c2' hu
        go_wp2_with fail
        go_ret
        exact ⟨false, rfl, (fun h => by cases h), HB.out⟩
      · have e1 : decide ((x.toNat : Int) < 65) = false := decide_eq_false (by omega)
        have e2 : decide (90 < (x.toNat : Int)) = false := decide_eq_false (by omega)
        have HN : Hid (∀ (j : Nat) y, j < k + 1 → M[j]? = some y → upB y = true) := fun j y hj hy => by
          by_cases hjk : j < k
          · exact hH.out j y hjk hy
          · obtain rfl : j = k := by omega
            rw [hx] at hy
            rw [← Option.some.inj hy]
            exact hu
        clear hx hka hH c1' c2' hu
        go_wp2_with fail
        go_roundw
        case rel => exact ⟨k + 1, by omega, by go_num, by trivial, HN⟩
        case measure => simp [intOf]; omega
    · obtain rfl : k = M.length := by omega
      have HUP := Lib.hid (all_yes2 hH.out)
      clear hka hH
      go_wp2_with fail
      go_loopw [4] (fun i wr => ∃ k : Nat, k ≤ T.length ∧ i = .int .i64 k ∧ w1 = wr ∧ Hid (∀ (j : Nat) x, j < k → T[j]? = some x → viB x = true)) (fun i _ => T.length - (intOf i).toNat)
      case atStart => exact ⟨0, by omega, rfl, rfl, (show ∀ (j : Nat) x, j < 0 → _ from fun j x h => absurd h (by omega))⟩
      case round =>
        obtain ⟨k, hk, rfl, rfl, hH⟩ := hrel
        by_cases hka : k < T.length
        · have hx : T[k]? = some (T[k]'hka) := List.getElem?_eq_getElem hka
          generalize T[k]'hka = x at hx
          have hi : ∀ W, (Instr.index 9 (.string ⟨T.toArray⟩) (.int .i64 (k : Int))).run Tryz.prog W = .ok (.int .u8 (x.toNat : Int)) W := fun W => run_str_at (P := Tryz.prog) Tryz.underlying9 T k x hx (kl := .i64) W
          have hk' : (k : Int) < T.length := by omega
          have hxb : (x.toNat : Int) ≤ 255 := by have := x.toNat_lt; omega
          rcases vi_case x with ⟨c1', hu⟩ | ⟨c1', c2', hu⟩ | ⟨c1', c2', hu⟩
          · have e1 : decide ((x.toNat : Int) < 33) = true := decide_eq_true c1'
            clear hx hka hH c1' hu
            go_wp2_with fail
            go_ret
            exact ⟨false, rfl, (fun h => by cases h), HB.out⟩
          · have e1 : decide ((x.toNat : Int) < 33) = false := decide_eq_false (by omega)
            have e2 : decide (126 < (x.toNat : Int)) = true := decide_eq_true c2'
            clear hx hka hH c1' c2' hu
            go_wp2_with fail
            go_ret
            exact ⟨false, rfl, (fun h => by cases h), HB.out⟩
          · have e1 : decide ((x.toNat : Int) < 33) = false := decide_eq_false (by omega)
            have e2 : decide (126 < (x.toNat : Int)) = false := decide_eq_false (by omega)
            have HN : Hid (∀ (j : Nat) y, j < k + 1 → T[j]? = some y → viB y = true) := fun j y hj hy => by
              by_cases hjk : j < k
              · exact hH.out j y hjk hy
              · obtain rfl : j = k := by omega
                rw [hx] at hy
                rw [← Option.some.inj hy]
                exact hu
            clear hx hka hH c1' c2' hu
            go_wp2_with fail
            go_roundw
            case rel => exact ⟨k + 1, by omega, by go_num, by trivial, HN⟩
            case measure => simp [intOf]; omega
        · obtain rfl : k = T.length := by omega
          have HUQ := Lib.hid (all_yes2 hH.out)
          clear hka hH
          go_wp2_with fail
          go_ret
          exact ⟨true, rfl, fun _ => HOK.out HUP.out HUQ.out, HB.out⟩

end Go.Proofs.YtckkmdigmecagaaGreatDoor

/-
  Requests that are asked for: Bytes.
-/
namespace Go.Proofs.YtckkmdigmecagaaGreatDoor
open Go.RowKit

def h1T : Bs := [32, 72, 84, 84, 80, 47, 49, 46, 49, 13, 10, 72, 79, 83, 84, 58, 32, 32, 97, 13, 10]
def Byted (M T bd : Bs) (sz : Int) (last : Bool) (w : World) (e : Ending) (w' : World) : Prop :=
  ∃ A n c, e = .returned (.slice A n c) ∧ Own w' w.heap.size 5 1 A n c ((madeT M T bd sz last).map b8) ∧ Below w.heap.size w w'
theorem made_sized (M T bd : Bs) {sz : Int} (h : sz = 0) (last : Bool) : madeT M T bd sz last = (M ++ 32 :: (T ++ h1T)) ++ (if last then coT ++ [13, 10] else []) ++ (clT ++ (decL bd.length ++ [13, 10, 13, 10])) ++ bd := by
  unfold madeT headT
  rw [if_pos h]
  cases last <;> simp [h1T, verS, hoT]
theorem made_chunked (M T bd : Bs) {sz : Int} (h : sz ≠ 0) (last : Bool) : madeT M T bd sz last = (M ++ 32 :: (T ++ h1T)) ++ (if last then coT ++ [13, 10] else []) ++ (teT ++ [13, 10, 13, 10]) ++ Hx.chunksL (max sz 1).toNat bd.length bd := by
  unfold madeT headT
  rw [if_neg h]
  cases last <;> simp [h1T, verS, hoT]

theorem str_app3 (a b : Bs) : ((⟨a.toArray⟩ : ByteArray) ++ ⟨b.toArray⟩) = ⟨(a ++ b).toArray⟩ := by
  apply ByteArray.ext
  simp [ByteArray.data_append]

set_option maxRecDepth 20000 in
set_option maxHeartbeats 8000000 in
theorem Bytes_any (M T bd : Bs) (sz : Int) (last : Bool) {w : World} {D : Option Addr} {nD cD : Nat} (hD : Rd w 1 D nD cD (bd.map b8)) (hT : Hx.HTab w) (hM1 : M.length ≤ 10) (hT1 : T.length ≤ 900) (hn : nD ≤ 4096) :
    Calls Tryz.prog 19 #[.agg (askA M T D nD cD sz last)] w (Byted M T bd sz last w) := by
  have hsa := size_mk M
  have hsb := size_mk T
  have hDl := hD.lenb
  have HD := Lib.hid hD
  have HT := Lib.hid hT
  clear hD hT
  go_enter Tryz.func19, Tryz.ntmps19
  go_upto_region 1 with (refine wpList_box rfl _ _ rfl (askA M T D nD cD sz last) rfl ?_; intro w1 hg1 hb1 hz1)
  have c0 : w1.cell? ⟨w.heap.size, 0, none⟩ = some (.string ⟨M.toArray⟩) := cell_of hg1 rfl
  have c1 : w1.cell? ⟨w.heap.size, 1, none⟩ = some (.string ⟨T.toArray⟩) := cell_of hg1 rfl
  have HG1 := Lib.hid hg1
  have HB1 := Lib.hid hb1
  have hlt : w.heap.size < w1.heap.size := by omega
  clear hg1 hb1 hz1
  obtain ⟨sx, hsx⟩ : ∃ s : ByteArray, ((⟨M.toArray⟩ : ByteArray) ++ ⟨#[32]⟩ ++ ⟨T.toArray⟩ ++ ⟨#[32, 72, 84, 84, 80, 47, 49, 46, 49, 13, 10, 72, 79, 83, 84, 58, 32, 32, 97, 13, 10]⟩) = s := ⟨_, rfl⟩
  have hsl : sx = ⟨(M ++ 32 :: (T ++ h1T)).toArray⟩ := by
    rw [← hsx]
    refine (congrArg (fun s : ByteArray => s ++ ⟨T.toArray⟩ ++ ⟨h1T.toArray⟩) (str_app3 M [32])).trans ?_
    rw [str_app3, str_app3]
    simp
  have hsz : sx.size = M.length + T.length + 22 := by
    rw [hsl, size_mk]
    simp [h1T]
    omega
  have HSX := Lib.hid hsx
  have HSL := Lib.hid hsl
  have HSZ := Lib.hid hsz
  clear hsx hsl hsz
  go_upto_if 13 with (refine wpList_s2b rfl _ rfl Tryz.underlying9 Tryz.underlying27 Tryz.underlying5 sx (congrArg Value.string HSX.out) (by rw [HSZ.out]; omega) ?_; intro c2 w2 ho2 hb2; rw [HSZ.out, HSL.out] at ho2; rw [HSZ.out]; have c4 : w2.cell? ⟨w.heap.size, 4, none⟩ = some (.bool last) := cell_of ((hb2.block _ hlt).trans HG1.out) rfl)
  have ho2' : Own w2 w1.heap.size 5 1 (some ⟨w1.heap.size, 0, none⟩) (M.length + T.length + 22) c2 ((M ++ 32 :: (T ++ h1T)).map b8) := ho2
  have hs2 := hb2.size
  clear c0 c1 ho2 HSX HSL HSZ
  obtain ⟨N, hN⟩ : ∃ N, M.length + T.length + 22 = N := ⟨_, rfl⟩
  rw [hN] at ho2' ⊢
  have hNn : N ≤ 932 := by omega
  have HO2 := Lib.hid ho2'
  have HB2 := Lib.hid hb2
  clear hN ho2' hb2 hsa hsb
  go_cut [3] from 13 to 15 (fun b wx => ∃ (B : Option Addr) (nB cB : Nat), b = .slice B nB cB ∧ nB ≤ 1000 ∧ Hid (Own wx w1.heap.size 5 1 B nB cB (((M ++ 32 :: (T ++ h1T)) ++ (if last then coT ++ [13, 10] else [])).map b8)) ∧ Hid (Below w1.heap.size w1 wx))
  case first =>
    cases last with
    | true =>
      go_wp2_with (at_builtin; refine wpList_app_str rfl _ _ rfl eb Tryz.underlying9 HO2.out rfl ⟨(coT ++ [13, 10]).toArray⟩ rfl (by rw [size_mk]; simp [coT]; omega) hs2 ?_; intro A3 c3 w3 ho3 hg3 hq3; have hb3 := Lib.hid (HB2.out.grown hg3 hs2 (fun g hg => (HO2.out.lt g hg).1)); clear hg3 hq3)
      go_meet
      refine ⟨A3, _, c3, rfl, by have : coT.length = 20 := rfl; omega, ?_, hb3⟩
      show Own _ _ _ _ _ _ _ _
      rw [List.map_append]
      exact ho3
    | false =>
      go_wp2_with fail
      go_meet
      refine ⟨_, _, c2, rfl, by omega, ?_, HB2⟩
      show Own _ _ _ _ _ _ _ _
      simpa using HO2.out
  case rest =>
    obtain ⟨B, nB, cB, rfl, hnB, hO, hB⟩ := hcut
    clear HO2 HB2 hs2 c4
    have c3 : ∀ b : Later w1, b.at'.cell? ⟨w.heap.size, 3, none⟩ = some (.int .i64 sz) := fun b => cell_of ((b.below.block _ hlt).trans HG1.out) rfl
    have c2' : ∀ b : Later w1, b.at'.cell? ⟨w.heap.size, 2, none⟩ = some (.slice D nD cD) := fun b => cell_of ((b.below.block _ hlt).trans HG1.out) rfl
    have HDL := Lib.hid (fun W (hb : Below w1.heap.size w1 W) => HD.out.below (HB1.out.trans (hb.mono HB1.out.size)))
    have c3' : wc.cell? ⟨w.heap.size, 3, none⟩ = some (.int .i64 sz) := cell_of ((hB.out.block _ hlt).trans HG1.out) rfl
    have hsc := hB.out.size
    by_cases hs : sz = 0
    · have HMD := Lib.hid (made_sized M T bd hs last)
      subst hs
      clear c3
      go_upto_region 5 with fail
      have HP := Lib.hid (fun W => Print_nonneg bd.length W (by omega))
      rw [hDl] at HP HMD
      have hPl := dec_len 4 nD (by omega) (by omega)
      have hz1 : (⟨(decL nD).toArray⟩ : ByteArray).size = (decL nD).length := size_mk _
      have hz2 : (⟨(clT ++ decL nD).toArray⟩ : ByteArray).size = (clT ++ decL nD).length := size_mk _
      have hcl : clT.length = 16 := rfl
      have hz3 : (⟨(clT ++ (decL nD ++ [13, 10, 13, 10])).toArray⟩ : ByteArray).size = (decL nD).length + 20 := by
        rw [size_mk, List.length_append, List.length_append, hcl]
        simp
        omega
      refine wp_region_plan (MPlan.reads [0, 1, 2, 3, 4, 5, 6, 8, 9] (.one 7 (.one 10 (MPlan.reads [11] .fin)))) (fun x => ∃ b : Later w1, x = b.at') (by kernel_rfl) (by kernel_rfl) (by kernel_rfl) (fun _ _ _ _ _ h => h) ⟨⟨wc.drew, hB.out.drew⟩, rfl⟩ ?_
      iterate 4 (refine plan_read (o := ⟨_, _, _, _, _, _⟩) (by rfl) (by rfl) ?_; go_big_quiet_step (fail); refine wpQuiet_nil ?_)
      refine plan_quiet (o := ⟨_, _, _, _, _, _⟩) (by rfl) (by rfl) _ (fun W => by go_simp) (fun w' _ => HP.out w') ?_
      simp only [Act.put, List.setIfInBounds_toArray, List.set_cons_succ, List.set_cons_zero]
      refine plan_run (o := ⟨_, _, _, _, _, _⟩) (by rfl) (by rfl) (.string ⟨(clT ++ decL nD).toArray⟩) (fun w' _ => by
        go_simp
        refine (if_neg ?_).trans (congrArg (fun s => Result.ok (Next.value (Value.string s)) w') (str_app3 clT (decL nD)))
        omega) ?_
      simp only [Act.put, List.setIfInBounds_toArray, List.set_cons_succ, List.set_cons_zero]
      refine plan_run (o := ⟨_, _, _, _, _, _⟩) (by rfl) (by rfl) (.string ⟨(clT ++ (decL nD ++ [13, 10, 13, 10])).toArray⟩) (fun w' _ => by
        go_simp
        refine (if_neg ?_).trans (congrArg (fun s => Result.ok (Next.value (Value.string s)) w') ((str_app3 (clT ++ decL nD) [13, 10, 13, 10]).trans (by rw [List.append_assoc])))
        omega) ?_
      simp only [Act.put, List.setIfInBounds_toArray, List.set_cons_succ, List.set_cons_zero]
      iterate 2 (refine plan_read (o := ⟨_, _, _, _, _, _⟩) (by rfl) (by rfl) ?_; go_big_quiet_step (fail); refine wpQuiet_nil ?_)
      have ho := (hO.out.keep (w' := wc.drew) (fun _ _ _ _ => rfl))
      have hbd : Below w1.heap.size w1 wc.drew := hB.out.drew
      refine plan_one (o := ⟨_, _, _, _, _, _⟩) (by rfl) (fun K hK => ?_)
      go_wp2_with (at_builtin; refine wpList_app_str rfl _ _ rfl eb Tryz.underlying9 ho rfl ⟨(clT ++ (decL nD ++ [13, 10, 13, 10])).toArray⟩ rfl (by rw [hz3]; omega) hsc ?_; intro A3 c3 w3 ho3 hg3 hq3; rw [hz3] at ho3 ⊢; replace ho3 : Own w3 w1.heap.size 5 1 A3 (nB + ((decL nD).length + 20)) c3 ((((M ++ 32 :: (T ++ h1T)) ++ (if last then coT ++ [13, 10] else [])).map b8) ++ (clT ++ (decL nD ++ [13, 10, 13, 10])).map b8) := ho3; have hb3 := hbd.grown hg3 hsc (fun g hg => (ho.lt g hg).1))
      have hsc3 := hb3.size
      have hr3 := HDL.out w3 hb3
      refine hK _ _ ⟨⟨w3, hb3⟩, rfl⟩ ?_
      clear hK ho hbd hg3 hq3
      refine plan_one (o := ⟨_, _, _, _, _, _⟩) (by rfl) (fun K hK => ?_)
      go_wp2_with (at_builtin; refine wpList_app rfl _ _ rfl eb ho3 rfl hr3 rfl (b8_one _) (by omega) (by unfold maxLen; omega) hsc3 ?_; intro A4 c4 w4 ho4 hg4 hq4; have hb4 := hb3.grown hg4 hsc3 (fun g hg => (ho3.lt g hg).1))
      refine hK _ _ ⟨⟨w4, hb4⟩, rfl⟩ ?_
      clear hK hr3 hg4 hq4
      refine plan_read (o := ⟨_, _, _, _, _, _⟩) (by rfl) (by rfl) ?_
      go_big_quiet_step (fail)
      refine wpQuiet_nil ?_
      refine plan_fin ?_
      have HO4 := Lib.hid ho4
      have HB4 := Lib.hid hb4
      have hs4 : w.heap.size ≤ w1.heap.size := by omega
      clear ho4 hb4 ho3 hb3 c2' c3'
      go_wp2_with fail
      go_ret
      refine ⟨_, _, _, rfl, ?_, HB1.out.trans (HB4.out.mono hs4)⟩
      rw [HMD.out]
      have := HO4.out.mono hs4
      simpa only [List.map_append, List.append_assoc] using this
    · have HMD := Lib.hid (made_chunked M T bd hs last)
      have hs' : (sz == 0) = false := by simpa using hs
      clear hs
      go_upto_region 6 with fail
      have hz3 : (⟨(teT ++ [13, 10, 13, 10]).toArray⟩ : ByteArray).size = 30 := rfl
      have HC := Lib.hid (fun W (hb : Below w1.heap.size w1 W) => Hx.Chunks_any D nD cD bd (HDL.out W hb) (by omega) sz (HT.out.below (HB1.out.trans (hb.mono HB1.out.size))))
      rw [hDl] at HMD
      refine wp_region_plan (MPlan.reads [0, 2, 3, 4, 5] (.one 1 (.one 6 (.one 7 (MPlan.reads [8] .fin))))) (fun x => ∃ b : Later w1, x = b.at') (by kernel_rfl) (by kernel_rfl) (by kernel_rfl) (fun _ _ _ _ _ h => h) ⟨⟨wc.drew, hB.out.drew⟩, rfl⟩ ?_
      iterate 5 (refine plan_read (o := ⟨_, _, _, _, _, _⟩) (by rfl) (by rfl) ?_; go_big_quiet_step (fail); refine wpQuiet_nil ?_)
      have ho := (hO.out.keep (w' := wc.drew) (fun _ _ _ _ => rfl))
      have hbd : Below w1.heap.size w1 wc.drew := hB.out.drew
      refine plan_one (o := ⟨_, _, _, _, _, _⟩) (by rfl) (fun K hK => ?_)
      go_wp2_with (at_builtin; refine wpList_app_str rfl _ _ rfl eb Tryz.underlying9 ho rfl ⟨(teT ++ [13, 10, 13, 10]).toArray⟩ rfl (by rw [hz3]; omega) hsc ?_; intro A3 c5 w3 ho3 hg3 hq3; rw [hz3] at ho3 ⊢; replace ho3 : Own w3 w1.heap.size 5 1 A3 (nB + 30) c5 ((((M ++ 32 :: (T ++ h1T)) ++ (if last then coT ++ [13, 10] else [])).map b8) ++ (teT ++ [13, 10, 13, 10]).map b8) := ho3; have hb3 := hbd.grown hg3 hsc (fun g hg => (ho.lt g hg).1))
      refine hK _ _ ⟨⟨w3, hb3⟩, rfl⟩ ?_
      clear hK ho hbd hg3 hq3
      refine plan_one (o := ⟨_, _, _, _, _, _⟩) (by rfl) (fun K hK => ?_)
      go_wp2_with fail
      refine (HC.out w3 hb3).mono ?_
      rintro e w5 ⟨A5, n5, c6, rfl, ho5, hb5⟩
      have hb35 := hb3.trans (hb5.mono hb3.size)
      go_wp2_with fail
      refine hK _ _ ⟨⟨w5, hb35⟩, rfl⟩ ?_
      clear hK
      have ho3' := ho3.below hb5
      have hsc5 := hb35.size
      have hr5 := ho5.rd
      have hn5 : n5 ≤ 140737488000000 := by
        have h1 := ho5.lenb
        have h2 := Hx.chunksL_len (max sz 1).toNat (by omega) nD bd (by omega)
        omega
      clear ho3 hb3 hb5 ho5
      refine plan_one (o := ⟨_, _, _, _, _, _⟩) (by rfl) (fun K hK => ?_)
      go_wp2_with (at_builtin; refine wpList_app rfl _ _ rfl eb ho3' rfl hr5 rfl (b8_one _) (by omega) (by unfold maxLen; omega) hsc5 ?_; intro A4 c4 w4 ho4 hg4 hq4; have hb4 := hb35.grown hg4 hsc5 (fun g hg => (ho3'.lt g hg).1))
      refine hK _ _ ⟨⟨w4, hb4⟩, rfl⟩ ?_
      clear hK hr5 hg4 hq4
      refine plan_read (o := ⟨_, _, _, _, _, _⟩) (by rfl) (by rfl) ?_
      go_big_quiet_step (fail)
      refine wpQuiet_nil ?_
      refine plan_fin ?_
      have HO4 := Lib.hid ho4
      have HB4 := Lib.hid hb4
      have hs4 : w.heap.size ≤ w1.heap.size := by omega
      clear ho4 hb4 ho3' hb35 c2' c3'
      go_wp2_with fail
      go_ret
      refine ⟨_, _, _, rfl, ?_, HB1.out.trans (HB4.out.mono hs4)⟩
      rw [HMD.out]
      have := HO4.out.mono hs4
      simpa only [List.map_append, List.append_assoc] using this

end Go.Proofs.YtckkmdigmecagaaGreatDoor

/-
  The statement WireBad.
-/
namespace Go.Proofs.YtckkmdigmecagaaGreatDoor
open Go.RowKit

def badL : List Bs := [[71, 69, 84], [32], [47, 120], [32], [72, 84, 84, 80, 47, 49, 46, 49], [13, 10], [104, 111, 115, 116], [58], [32, 97], [13, 10], [99, 111, 110, 116, 101, 110, 116, 45, 108, 101, 110, 103, 116, 104], [58], [32, 51], [13, 10], [13, 10], [97, 98, 99]]
theorem set_all {P : Bs → Prop} {L : List Bs} {k : Nat} {x : Bs} (h : ∀ y ∈ L, P y) (hx : P x) : ∀ y ∈ L.set k x, P y := fun y hy => (List.mem_or_eq_of_mem_set hy).elim (h y) (fun e => e ▸ hx)

theorem RqR.keepB {w w' : World} {n c : Nat} {A : Option Addr} {l : List RP} (h : RqR w A n c l) (hk : ∀ k, k ∈ reqB A l → k < w.heap.size → w'.heap[k]? = w.heap[k]?) : RqR w' A n c l :=
  ⟨h.row.keep fun k hb hlt => hk k (List.mem_append_left _ (blk_mem hb)) hlt, fun p hp => ⟨Rd.keep (h.each p hp).1 fun k hb hlt => hk k (List.mem_append_right _ (List.mem_flatMap.2 ⟨p, hp, List.mem_append_left _ (blk_mem hb)⟩)) hlt, (h.each p hp).2.keep fun k hb hlt => hk k (List.mem_append_right _ (List.mem_flatMap.2 ⟨p, hp, List.mem_append_right _ (blk_mem hb)⟩)) hlt⟩⟩
/-- A wire that was fed is fed once more. -/
theorem bad_feed {w : World} {base g : Nat} {y : WSt} {m : WMem} {E : Int} {ov : Bool} (h : WireB w base g y m) (hk : E = 0 → WOk y ∧ y.nx ≤ 4) (hbad : E ≠ 0 → y.nx = 5) (hov : overW y E = ov) (hm : Mx w) (h0 : mxb < base) {B : Option Addr} {bl : Bs} (hb : Rd w 1 B 3 3 (bl.map b8)) (hB : ∀ k, blk B = some k → k < w.heap.size ∧ ¬ m.has g k) :
    Calls Tryz.prog 10 #[.pointer (some ⟨g, 0, none⟩), .slice B 3 3] w fun e w2 => ∃ A n c e', e = .returned (.tuple #[.slice A n c, .int .i64 e']) ∧ (E ≠ 0 → n = 0 ∧ e' = 8) ∧ (ov = true → ∀ w3, Below w2.heap.size w2 w3 → ∃ z : Nat, w3.cell? ⟨g, 0, none⟩ = some (.int .i64 (z : Int)) ∧ overB z = true) ∧ But (m.has g) w w2 := by
  by_cases hE : E = 0
  · obtain ⟨k1, k2⟩ := hk hE
    refine (WFeed_any h k1 k2 hm h0 hb (by omega) hB).mono ?_
    rintro e w2 ⟨A, n, c, l, m2, rfl, hW, -, -, hbt, -, -⟩
    refine ⟨A, n, c, _, rfl, fun h => absurd hE h, fun ho w3 hb3 => ?_, hbt⟩
    have h4 : y.nx = 4 := by
      rw [← hov] at ho
      simpa [overW, hE] using ho
    have hc := (hW.below hb3).cells.1
    rw [feed_done h4, h4] at hc
    exact ⟨4, hc, rfl⟩
  · have hc := h.cells.1
    rw [hbad hE] at hc
    refine (WFeed_wrong hc _).mono ?_
    rintro e w2 ⟨rfl, rfl⟩
    refine ⟨none, 0, 0, 8, rfl, fun _ => ⟨rfl, rfl⟩, fun ho w3 hb3 => ?_, But.refl _ _⟩
    have hc := (h.below hb3).cells.1
    rw [hbad hE] at hc
    exact ⟨5, hc, rfl⟩

set_option maxRecDepth 20000 in
set_option maxHeartbeats 16000000 in
theorem wireBad_walk {w : World} (hm : Mx w) (a : Int) (ha0 : -9223372036854775808 ≤ a) (ha1 : a ≤ 9223372036854775807) (s : ByteArray) (_ : s.size ≤ maxLen) :
    Calls Tryz.prog 4 #[.int .i64 a, .string s] w fun e w' => e = .returned (.bool true) ∧ Below w.heap.size w w' := by
  obtain ⟨sl, rfl⟩ : ∃ l : List UInt8, s = ⟨l.toArray⟩ := ⟨s.data.toList, by cases s; simp⟩
  have hz := size_mk sl
  have HBG := Lib.hid (wbegun_any w hm (mx_size hm))
  by_cases hn : (200 : Int) < sl.length
  · have hn' : decide ((200 : Int) < sl.length) = true := decide_eq_true hn
    clear hn hm
    go_enter Tryz.func4, Tryz.ntmps4
    go_wp2_with fail
    refine HBG.out.mono ?_
    rintro e w1 ⟨rfl, hB1⟩
    go_wp2_with fail
    go_ret
    exact ⟨rfl, hB1⟩
  have hn' : decide ((200 : Int) < sl.length) = false := decide_eq_false hn
  have hsl : sl.length ≤ 200 := by omega
  have hs0 := mx_size hm
  have HM := Lib.hid (fun W (hb : Below w.heap.size w W) => hm.below hb)
  have HP := Lib.hid (fun W => Place_any a 16 W ha0 ha1 (by omega))
  have hp := placeP_lt a 16 (by omega)
  obtain ⟨p, hp1⟩ : ∃ p, placeP a 16 = p := ⟨_, rfl⟩
  rw [hp1] at HP hp
  clear hn hm ha0 ha1 hp1
  go_enter Tryz.func4, Tryz.ntmps4
  go_wp2_with fail
  refine HBG.out.mono ?_
  rintro e w1 ⟨rfl, hB1⟩
  go_wp2_with fail
  obtain ⟨w2, hw2⟩ : ∃ W, w1.alloc (.cells #[.string ⟨#[71, 69, 84]⟩, .string ⟨#[32]⟩, .string ⟨#[47, 120]⟩, .string ⟨#[32]⟩, .string ⟨#[72, 84, 84, 80, 47, 49, 46, 49]⟩, .string ⟨#[13, 10]⟩, .string ⟨#[104, 111, 115, 116]⟩, .string ⟨#[58]⟩, .string ⟨#[32, 97]⟩, .string ⟨#[13, 10]⟩, .string ⟨#[99, 111, 110, 116, 101, 110, 116, 45, 108, 101, 110, 103, 116, 104]⟩, .string ⟨#[58]⟩, .string ⟨#[32, 51]⟩, .string ⟨#[13, 10]⟩, .string ⟨#[13, 10]⟩, .string ⟨#[97, 98, 99]⟩] 9) = W := ⟨_, rfl⟩
  have ho2 : Own w2 w.heap.size 9 1 (some ⟨w1.heap.size, 0, none⟩) 16 16 (badL.map Fl.strV) := by
    rw [← hw2]
    exact Own.lit w1 w.heap.size (badL.map Fl.strV) 9 16 rfl (by decide) hB1.size
  have hB2 : Below w.heap.size w w2 := by
    rw [← hw2]
    exact hB1.alloc hB1.size _
  have hsz2 : w1.heap.size < w2.heap.size := by
    rw [← hw2]
    simp
  rw [hw2]
  clear hw2
  obtain ⟨A, hA⟩ : ∃ A : Option Addr, some ⟨w1.heap.size, 0, none⟩ = A := ⟨_, rfl⟩
  rw [hA] at ho2 ⊢
  clear hA
  refine (HP.out w2).mono ?_
  rintro e w2' ⟨rfl, rfl⟩
  have hcell := ho2.rd.cell p (Fl.strV (badL[p]'(by show p < 16; exact hp))) (by rw [List.getElem?_map, List.getElem?_eq_getElem (by show p < 16; exact hp)]; rfl)
  have hidx := fun W => run_index_rd (P := Tryz.prog) (A := A) (n := 16) (c := 16) Fl.es ho2.rd.nil ho2.rd.le p hp W
  simp only [Nat.mul_one] at hidx
  have hfr := ho2.free (k := p) hp
  have hst := ho2.store (k := p) hp (Fl.strV sl)
  have hbs := below_store hB2 ho2 (k := p) hp (Fl.strV sl)
  rw [← List.map_set] at hst
  have HST := Lib.hid hst
  have HBS := Lib.hid hbs
  unfold Fl.strV at hcell
  clear hst hbs HP
  go_wp2_with fail
  obtain ⟨w3, hw3⟩ : ∃ W, w2.setCell (at_ A p) (.string ⟨sl.toArray⟩) = W := ⟨_, rfl⟩
  obtain ⟨L, hL⟩ : ∃ L, badL.set p sl = L := ⟨_, rfl⟩
  have ho3 : Own w3 w.heap.size 9 1 A 16 16 (L.map Fl.strV) := by
    rw [← hw3, ← hL]
    exact HST.out
  have hB3 : Below w.heap.size w w3 := by
    rw [← hw3]
    exact HBS.out
  have hLl : L.length = 16 := by
    rw [← hL]
    simp [badL]
  have hLs : ∀ x ∈ L, x.length ≤ 200 := by
    rw [← hL]
    exact set_all (by decide) hsl
  rw [hw3]
  clear hw3 hcell hidx hfr HST HBS hL ho2 hB2 hsz2 hp
  have HO3 := Lib.hid ho3
  have HB3 := Lib.hid hB3
  have HLS := Lib.hid (show L.length = 16 ∧ ∀ x ∈ L, x.length ≤ 200 from ⟨hLl, hLs⟩)
  clear ho3 hB3 hLl hLs hB1 hz hsl hn' HBG
  go_loopw [6, 7] (fun b i wr => ∃ (k : Nat) (t : Bs), k ≤ 16 ∧ t.length ≤ 200 * k ∧ b = .string ⟨t.toArray⟩ ∧ i = .int .i64 (k : Int) ∧ w3 = wr) (fun _ i _ => 16 - (intOf i).toNat)
  case atStart => exact ⟨0, [], by omega, by simp, rfl, rfl, rfl⟩
  case round =>
    obtain ⟨k, t, hk, ht, rfl, rfl, rfl⟩ := hrel
    have hzt := size_mk t
    by_cases hk16 : k < 16
    · have hx : L[k]? = some (L[k]'(by rw [HLS.out.1]; exact hk16)) := List.getElem?_eq_getElem _
      generalize L[k]'(by rw [HLS.out.1]; exact hk16) = x at hx
      have hxs := HLS.out.2 x (List.mem_of_getElem? hx)
      have hcell := HO3.out.rd.cell k (Fl.strV x) (by rw [List.getElem?_map, hx]; rfl)
      have hidx := fun W => run_index_rd (P := Tryz.prog) (A := A) (n := 16) (c := 16) Fl.es HO3.out.rd.nil HO3.out.rd.le k hk16 W
      simp only [Nat.mul_one] at hidx
      have hzx := size_mk x
      have hk' : (k : Int) < 16 := by omega
      unfold Fl.strV at hcell
      clear hx hk16
      go_wp2_with fail
      go_roundw
      case rel => exact ⟨k + 1, t ++ x, by omega, by rw [List.length_append]; omega, congrArg Value.string (str_app3 t x), by go_num, by trivial⟩
      case measure => simp [intOf]; omega
    · obtain rfl : k = 16 := by omega
      clear hk16 HLS HO3 hk
      have hm3 : mxb < w3.heap.size := Nat.lt_of_lt_of_le hs0 HB3.out.size
      have ht' : t.length ≤ 3200 := by omega
      obtain ⟨E, hE⟩ : ∃ E, (feedW newW t).2.2 = E := ⟨_, rfl⟩
      obtain ⟨y, hy⟩ : ∃ y, (feedW newW t).2.1 = y := ⟨_, rfl⟩
      have HOK : Hid (E = 0 → WOk y ∧ y.nx ≤ 4) := fun e => by
        have := feed_ok t newW newOk (by decide) (by rw [hE]; exact e)
        rw [hy] at this
        exact this
      have HBAD : Hid (E ≠ 0 → y.nx = 5) := fun e => by
        have := feed_e5 (y := newW) (l := t) (by rw [hE]; exact e)
        rw [hy] at this
        exact this
      have HE := Lib.hid hE
      have HY := Lib.hid hy
      clear hE hy ht
      go_wp2_with fail
      refine (New_any w3).mono ?_
      rintro e w4 ⟨rfl, hW4, hb4⟩
      have hB4 := HB3.out.trans (hb4.mono HB3.out.size)
      have hlt4 := hW4.lt
      have HW4 := Lib.hid hW4
      have HB4 := Lib.hid hB4
      clear hW4 hb4 hB4
      go_wp2_with (refine wpList_s2b rfl _ rfl Tryz.underlying9 Tryz.underlying27 Tryz.underlying5 ⟨t.toArray⟩ rfl (by omega) ?_; intro c5 w5 ho5 hb5; rw [hzt] at ho5 ⊢)
      have hB5 := HB4.out.trans (hb5.mono HB4.out.size)
      have hr5 : Rd w5 1 (some ⟨w4.heap.size, 0, none⟩) t.length c5 (t.map b8) := by simpa using ho5.rd
      refine (WFeed_any (HW4.out.below hb5) newOk (by decide) (HM.out _ hB5) hm3 hr5 (by omega) (fun k hk => ?_)).mono ?_
      · have h1 := ho5.lt k hk
        refine ⟨h1.2, fun hk2 => ?_⟩
        have h2 := (HW4.out.in_ k hk2).2
        omega
      unfold Fed
      rintro e w6 ⟨R, nR, cR, l, m2, rfl, hW6, hR6, hlm, hbt, hh, hap⟩
      rw [HE.out]
      rw [HY.out] at hW6
      have hs5 := hb5.size
      have hB6 : Below w.heap.size w w6 := hB5.trans (hbt.below (fun i hi => Nat.le_trans HB3.out.size (HW4.out.in_ i hi).1) hB5.size)
      have HW6 := Lib.hid hW6
      have HR6 := Lib.hid hR6
      have HLM := Lib.hid hlm
      have HAP := Lib.hid hap
      have HB6 := Lib.hid hB6
      clear hr5 ho5 hb5 hB5 hW6 hR6 hlm hbt hh hap hB6 HB4 HW4
      go_wp2_with (refine wpList_s2b rfl _ rfl Tryz.underlying9 Tryz.underlying27 Tryz.underlying5 ⟨t.toArray⟩ rfl (by omega) ?_; intro c7 w7 ho7 hb7; rw [hzt] at ho7 ⊢)
      have hr7 : Rd w7 1 (some ⟨w6.heap.size, 0, none⟩) t.length c7 (t.map b8) := by simpa using ho7.rd
      refine (Read_any hr7 (by omega) (fun k hk => (ho7.lt k hk).2)).mono ?_
      unfold Readed
      rintro e w8 ⟨L2, nL2, cL2, E2, nE, cE, l2, rfl, hR8, hl2, hb8⟩
      rw [HE.out, HY.out]
      obtain ⟨ov, hov⟩ : ∃ b, overW y E = b := ⟨_, rfl⟩
      rw [hov]
      have HOV := Lib.hid hov
      have HL2 := Lib.hid (HLM.out.trans hl2.symm)
      have HR8 := Lib.hid hR8
      have hb68 := Lib.hid (hb7.trans (hb8.mono hb7.size))
      have h67 := hb7.size
      have hcv := fun W => Lib.run_convert_bytes_const (P := Tryz.prog) W 27 5 #[.int .u8 71, .int .u8 69, .int .u8 84] 3 3 Tryz.underlying27 Tryz.underlying5
      clear hov hl2 hR8 hb7 hb8 ho7 hr7
      go_wp2_with (first
        | (refine wpList_alloc_zero rfl _ rfl (toldW none 0 0 none 0 0 0 false) zero_told ?_; intro w9 hg9 hb9 hz9; clear hz9)
        | (refine wpList_store_all rfl _ _ _ rfl w8.heap.size rfl _ _ (toldW L2 nL2 cL2 E2 nE cE E ov) rfl hg9 size_told rfl told_one ?_; intro w10 hg10 hgr10 hz10; clear hz10))
      have hb8A : Below w8.heap.size w8 w10 := hb9.grown hgr10 hb9.size (fun q hq => by obtain rfl := Option.some.inj hq; exact Nat.le_refl _)
      obtain ⟨w11, hw11⟩ : ∃ W, w10.alloc (.cells #[.int .u8 71, .int .u8 69, .int .u8 84] 5 (3, 4)) = W := ⟨_, rfl⟩
      have ho11 : Own w11 w10.heap.size 5 1 (some ⟨w10.heap.size, 0, none⟩) 3 3 (([71, 69, 84] : Bs).map b8) := by
        rw [← hw11]
        exact Own.new (e := 5) (size := 1) w10 (([71, 69, 84] : Bs).map b8).toArray (3, 4) 3 3 (([71, 69, 84] : Bs).map b8) (Nat.le_refl _) (Nat.le_refl _) (by decide) (by decide) (by decide) (by simp) (fun j _ h => by omega)
      have hb10 : Below w10.heap.size w10 w11 := by
        rw [← hw11]
        exact (Below.refl _ _).alloc (Nat.le_refl _) _
      rw [hw11]
      have hb8B := hb8A.trans (hb10.mono hb8A.size)
      have hb6B := hb68.out.trans (hb8B.mono hb68.out.size)
      have hB11 := HB6.out.trans (hb6B.mono HB6.out.size)
      have hT11 : w11.heap[w8.heap.size]? = some (.cells (toldW L2 nL2 cL2 E2 nE cE E ov) 37 (0, 0)) := (hb10.block _ (Array.getElem?_eq_some_iff.1 hg10).1).trans hg10
      have h811 : w8.heap.size < w11.heap.size := (Array.getElem?_eq_some_iff.1 hT11).1
      have h68 := hb68.out.size
      have hs810 := hb8A.size
      have HF := Lib.hid (bad_feed (HW6.out.below hb6B) HOK.out HBAD.out HOV.out (HM.out _ hB11) hm3 ho11.rd (fun k hk => by
        have h1 := ho11.lt k hk
        exact ⟨h1.2, fun hk2 => by
          have h2 := (HW6.out.in_ k hk2).2
          omega⟩))
      have HMK := Lib.hid (fun w12 (hbt : But (m2.has w3.heap.size) w11 w12) => (⟨(HR6.out.below hb6B).but hbt (fun k hk => (HAP.out k hk).1), ((HR8.out.below hb8B).rd).keepB (fun k hk hlt => hbt.block k hlt (fun hm => by
          have h2 := (HW6.out.in_ k hm).2
          have h3 := (HR8.out.in_ k hk).1
          omega)), (hbt.block _ h811 (fun hm => by
          have h2 := (HW6.out.in_ _ hm).2
          omega)).trans hT11, hB11.trans (hbt.below (fun i hi => Nat.le_trans HB3.out.size (HW6.out.in_ i hi).1) hB11.size)⟩ : Reqs w12 w3.heap.size R nR cR l ∧ RqR w12 L2 nL2 cL2 l2 ∧ w12.heap[w8.heap.size]? = some (.cells (toldW L2 nL2 cL2 E2 nE cE E ov) 37 (0, 0)) ∧ Below w.heap.size w w12))
      clear hcv h67 hw11 ho11 hb10 hb8A hb8B hb6B hB11 hT11 hg9 hb9 hg10 hgr10 HR6 HR8 HW6 hb68 HAP h811 h68 hs810 hs5
      refine HF.out.mono ?_
      rintro e w12 ⟨A', n', c', e', rfl, hEb, hOv, hbt⟩
      obtain ⟨hR12, hQ12, hT12, hB12⟩ := HMK.out w12 hbt
      have HS := Lib.hid (same_any hR12.rd hQ12 HL2.out)
      have HT12 := Lib.hid hT12
      have HB12 := Lib.hid hB12
      have hs12 : w8.heap.size < w12.heap.size := (Array.getElem?_eq_some_iff.1 hT12).1
      have ht2 : w12.cell? ⟨w8.heap.size, 2, none⟩ = some (.int .i64 E) := cell_of hT12 rfl
      have ht0 : w12.cell? ⟨w8.heap.size, 0, none⟩ = some (.slice L2 nL2 cL2) := cell_of hT12 rfl
      have HOv := Lib.hid hOv
      have hE0 := Lib.hid (show (E = 0 ∨ E ≠ 0) from Classical.em _)
      have HEb := Lib.hid hEb
      clear HF HMK hbt hR12 hQ12 hT12 hB12 hOv hEb HL2
      go_wp2_with fail
      refine HS.out.mono ?_
      rintro e w13 ⟨rfl, hb13⟩
      have hT13 := (hb13.block _ hs12).trans HT12.out
      have ht2' : w13.cell? ⟨w8.heap.size, 2, none⟩ = some (.int .i64 E) := cell_of hT13 rfl
      have ht4' : w13.cell? ⟨w8.heap.size, 4, none⟩ = some (.bool ov) := cell_of hT13 rfl
      have HB13 := Lib.hid (HB12.out.trans (hb13.mono HB12.out.size))
      have HOv13 := Lib.hid (fun h : ov = true => (HOv.out h) w13 hb13)
      clear hT13 HT12 HB12 hb13 HS ht2 ht0 HOv
      rcases hE0.out with hE | hE
      · subst hE
        cases ov with
        | false =>
          clear HOv13 HEb
          go_wp2_with fail
          go_ret
          exact ⟨rfl, HB13.out⟩
        | true =>
          obtain ⟨z, hz9, hov9⟩ := HOv13.out rfl
          have HO9 := Lib.hid (Over_any hz9)
          rw [hov9] at HO9
          clear HOv13 HEb hz9 hov9
          go_wp2_with fail
          refine HO9.out.mono ?_
          rintro e w14 ⟨rfl, rfl⟩
          go_wp2_with fail
          go_ret
          exact ⟨rfl, HB13.out⟩
      · have hov : ov = true := by
          rw [← HOV.out]
          simp [overW, hE]
        subst hov
        obtain ⟨rfl, rfl⟩ := HEb.out hE
        obtain ⟨z, hz9, hov9⟩ := HOv13.out rfl
        have HO9 := Lib.hid (Over_any hz9)
        rw [hov9] at HO9
        have hE1 : (E == 0) = false := by simpa using hE
        clear HOv13 HEb hz9 hov9 hE
        go_wp2_with fail
        refine HO9.out.mono ?_
        rintro e w14 ⟨rfl, rfl⟩
        go_wp2_with fail
        go_ret
        exact ⟨rfl, HB13.out⟩

end Go.Proofs.YtckkmdigmecagaaGreatDoor

/-
  Rows of requests that are asked for; plain: all of them, as a wire takes them.
-/
namespace Go.Proofs.YtckkmdigmecagaaGreatDoor
open Go.RowKit

structure AskP where
  M : Bs
  T : Bs
  bd : Bs
  sz : Int
  last : Bool
  D : Option Addr
  nD : Nat
  cD : Nat
def AskP.arr (p : AskP) : Array Value := askA p.M p.T p.D p.nD p.cD p.sz p.last
def askL : List AskP → List Value
  | [] => []
  | p :: l => p.arr.toList ++ askL l
theorem askL_len : ∀ l : List AskP, (askL l).length = l.length * 5
  | [] => rfl
  | p :: l => by
    rw [askL, List.length_append, askL_len l, List.length_cons]
    have : p.arr.toList.length = 5 := rfl
    omega
theorem askL_at : ∀ (l : List AskP) (k : Nat) (p : AskP), l[k]? = some p → ∀ j : Nat, j < 5 → (askL l)[k * 5 + j]? = p.arr.toList[j]?
  | [], k, p, h, _, _ => by simp at h
  | q :: l, 0, p, h, j, hj => by
    obtain rfl : q = p := by simpa using h
    rw [askL, List.getElem?_append_left (by have : q.arr.toList.length = 5 := rfl; omega)]
    simp
  | q :: l, k + 1, p, h, j, hj => by
    have h1 : q.arr.toList.length = 5 := rfl
    rw [askL, List.getElem?_append_right (by omega), h1, show (k + 1) * 5 + j - 5 = k * 5 + j by omega]
    exact askL_at l k p (by simpa using h) j hj
structure Asks (w : World) (A : Option Addr) (n c : Nat) (l : List AskP) : Prop where
  row : Rd w 5 A n c (askL l)
  each : ∀ p ∈ l, Rd w 1 p.D p.nD p.cD (p.bd.map b8)
theorem ek : ElemT Tryz.prog 49 52 (.agg (askA [] [] none 0 0 0 false)) 5 72 := ElemT.of Tryz.underlying49 (by kernel_rfl) rfl (by omega)
theorem size_ask0 : (Tryz.prog.info? 52).map (·.size) = some 5 := by kernel_rfl
section
variable {w w' : World} {n c k : Nat} {A : Option Addr} {l : List AskP} {p : AskP}
theorem Asks.below (h : Asks w A n c l) (hb : Below w.heap.size w w') : Asks w' A n c l := ⟨h.row.below hb, fun p hp => (h.each p hp).below hb⟩
theorem Asks.len (h : Asks w A n c l) : l.length = n := by
  have := h.row.len
  rw [askL_len] at this
  omega
theorem Asks.load (h : Asks w A n c l) (hx : l[k]? = some p) : (loadVar 52 (at_ A (k * 5))).run Tryz.prog w = .ok (.agg p.arr) w := by
  have hl := run_loadCells_list (P := Tryz.prog) w (at_ A (k * 5)) p.arr.toList (fun j v hv => by
    rw [Fl.at_add2]
    have hj : j < 5 := (List.getElem?_eq_some_iff.1 hv).1
    exact h.row.cell (k * 5 + j) v (by rw [askL_at l k p hx j hj]; exact hv))
  have e : p.arr.toList.length = 5 := rfl
  have e2 : (p.arr.toList).toArray = p.arr := rfl
  rw [e, e2] at hl
  simp [loadVar, isAgg, run_underlying Tryz.underlying52, sizeOf_run size_ask0, hl]
theorem Asks.idx (h : Asks w A n c l) (hk : k < n) (W : World) : (Instr.indexAt 49 (.slice A n c) (.int .i64 (k : Int))).run Tryz.prog W = .ok (.pointer (some (at_ A (k * 5)))) W :=
  run_index_rd ek h.row.nil h.row.le k hk W
theorem Asks.cells (h : Asks w A n c l) (hx : l[k]? = some p) : w.cell? (at_ A (k * 5)) = some (.string ⟨p.M.toArray⟩) ∧ w.cell? ⟨(at_ A (k * 5)).block, (at_ A (k * 5)).off + 1, none⟩ = some (.string ⟨p.T.toArray⟩) ∧ w.cell? ⟨(at_ A (k * 5)).block, (at_ A (k * 5)).off + 2, none⟩ = some (.slice p.D p.nD p.cD) ∧ w.cell? ⟨(at_ A (k * 5)).block, (at_ A (k * 5)).off + 4, none⟩ = some (.bool p.last) := by
  have hc : ∀ j v, j < 5 → p.arr.toList[j]? = some v → w.cell? ((at_ A (k * 5)).add j) = some v := fun j v hj hv => by
    rw [Fl.at_add2]
    exact h.row.cell (k * 5 + j) v (by rw [askL_at l k p hx j hj]; exact hv)
  exact ⟨hc 0 _ (by omega) rfl, hc 1 _ (by omega) rfl, hc 2 _ (by omega) rfl, hc 4 _ (by omega) rfl⟩
end
theorem req_cells4 {w : World} {n c k : Nat} {A : Option Addr} {l : List RP} {p : RP} (h : Rd w 5 A n c (rqL l)) (hx : l[k]? = some p) : w.cell? (at_ A (k * 5)) = some (.string ⟨p.1.m.toArray⟩) ∧ w.cell? ⟨(at_ A (k * 5)).block, (at_ A (k * 5)).off + 1, none⟩ = some (.string ⟨p.1.t.toArray⟩) ∧ w.cell? ⟨(at_ A (k * 5)).block, (at_ A (k * 5)).off + 3, none⟩ = some (.slice p.2.D p.2.nD p.2.cD) ∧ w.cell? ⟨(at_ A (k * 5)).block, (at_ A (k * 5)).off + 4, none⟩ = some (.bool p.1.kp) := by
  have hc : ∀ j v, j < 5 → (RP.arr p).toList[j]? = some v → w.cell? ((at_ A (k * 5)).add j) = some v := fun j v hj hv => by
    rw [Fl.at_add2]
    exact h.cell (k * 5 + j) v (by rw [Nat.mul_comm k 5, rqL_at l k p hx j hj]; exact hv)
  exact ⟨hc 0 _ (by omega) rfl, hc 1 _ (by omega) rfl, hc 3 _ (by omega) rfl, hc 4 _ (by omega) rfl⟩

/-! ### Plain -/
def AskP.made (p : AskP) : Bs := madeT p.M p.T p.bd p.sz p.last
def madeAll (l : List AskP) : Bs := l.flatMap AskP.made
def okP (p : AskP) : Prop := okA p.M p.T ∧ p.bd.length ≤ 4096
def AskP.rq (p : AskP) : Rqp := ⟨p.M, p.T, madeF p.bd p.sz p.last, p.bd, !p.last⟩
def gotL : List AskP → List Rqp
  | [] => []
  | p :: l => p.rq :: if p.last then [] else gotL l
theorem all_feed : ∀ l : List AskP, (∀ p ∈ l, okP p) → ∃ y, feedW newW (madeAll l) = (gotL l, y, 0)
  | [], _ => ⟨newW, rfl⟩
  | p :: l, h => by
    obtain ⟨h1, h2⟩ := h p (by simp)
    have hf : feedW newW (madeAll (p :: l)) = (p.rq :: (feedW (nextW p.last) (madeAll l)).1, (feedW (nextW p.last) (madeAll l)).2) := made_feed (sz := p.sz) (last := p.last) h1 h2 (madeAll l)
    rw [hf, gotL]
    cases hl : p.last with
    | true =>
      refine ⟨nextW true, ?_⟩
      rw [feed_done (by rfl)]
      rfl
    | false =>
      obtain ⟨y, hy⟩ := all_feed l (fun q hq => h q (by simp [hq]))
      refine ⟨y, ?_⟩
      have : nextW false = newW := rfl
      rw [this, hy]
      rfl
theorem got_at : ∀ (l : List AskP) (k : Nat) (p : AskP), l[k]? = some p → (∀ (j : Nat) q, j < k → l[j]? = some q → q.last = false) → (gotL l)[k]? = some p.rq ∧ (p.last = true → (gotL l).length = k + 1)
  | [], k, p, h, _ => by simp at h
  | q :: l, 0, p, h, _ => by
    obtain rfl : q = p := by simpa using h
    refine ⟨rfl, fun hl => ?_⟩
    rw [gotL, hl]
    rfl
  | q :: l, k + 1, p, h, hn => by
    have hq : q.last = false := hn 0 q (by omega) rfl
    have := got_at l k p (by simpa using h) (fun j r hj hr => hn (j + 1) r (by omega) (by simpa using hr))
    rw [gotL, hq]
    refine ⟨by simpa using this.1, fun hl => ?_⟩
    have := this.2 hl
    simpa using this
theorem got_len : ∀ l : List AskP, (∀ (j : Nat) q, j < l.length → l[j]? = some q → q.last = false) → (gotL l).length = l.length
  | [], _ => rfl
  | q :: l, hn => by
    have hq : q.last = false := hn 0 q (by simp) rfl
    have := got_len l (fun j r hj hr => hn (j + 1) r (by simpa using hj) (by simpa using hr))
    rw [gotL, hq]
    simpa using this
theorem made_len {p : AskP} (h : okP p) : p.made.length ≤ 60000 := by
  obtain ⟨⟨h1, h2, -, h4, h5, -⟩, h6⟩ := h
  unfold AskP.made
  have hl : (if p.last then coT ++ [13, 10] else [] : Bs).length ≤ 22 := by
    cases p.last <;> simp [coT]
  have hh : h1T.length = 21 := rfl
  have hcl : clT.length = 16 := rfl
  have hte : teT.length = 26 := rfl
  by_cases hs : p.sz = 0
  · rw [made_sized _ _ _ hs]
    have := dec_len 4 p.bd.length (by omega) (by omega)
    simp only [List.length_append, List.length_cons, List.length_nil]
    omega
  · rw [made_chunked _ _ _ hs]
    have := Hx.chunksL_len (max p.sz 1).toNat (by omega) p.bd.length p.bd (by omega)
    simp only [List.length_append, List.length_cons, List.length_nil]
    omega
theorem all_len : ∀ l : List AskP, (∀ p ∈ l, okP p) → (madeAll l).length ≤ l.length * 60000
  | [], _ => by simp [madeAll]
  | p :: l, h => by
    have h1 := made_len (h p (by simp))
    have h2 := all_len l (fun q hq => h q (by simp [hq]))
    have e : madeAll (p :: l) = p.made ++ madeAll l := rfl
    rw [e, List.length_append, List.length_cons]
    omega
theorem all_snoc {l : List AskP} {k : Nat} {p : AskP} (h : l[k]? = some p) : madeAll (l.take (k + 1)) = madeAll (l.take k) ++ p.made := by
  obtain ⟨h1, rfl⟩ := List.getElem?_eq_some_iff.1 h
  unfold madeAll
  rw [List.take_succ_eq_append_getElem h1, List.flatMap_append]
  simp
theorem ok_snoc {l : List AskP} {k : Nat} {p : AskP} (h : l[k]? = some p) (hp : okP p) (hk : ∀ q ∈ l.take k, okP q) : ∀ q ∈ l.take (k + 1), okP q := by
  obtain ⟨h1, rfl⟩ := List.getElem?_eq_some_iff.1 h
  rw [List.take_succ_eq_append_getElem h1]
  intro q hq
  rcases List.mem_append.1 hq with h2 | h2
  · exact hk q h2
  · rw [List.mem_singleton.1 h2]
    exact hp

end Go.Proofs.YtckkmdigmecagaaGreatDoor

/-
  The statement WirePieces.
-/
namespace Go.Proofs.YtckkmdigmecagaaGreatDoor
open Go.RowKit

theorem wcut_blocks {W : World} {A : Option Addr} {n c : Nat} {l : List UInt8} (h : Rd W 1 A n c (l.map b8)) {r : Row} (h1 : 1 ≤ r.n) (h2 : r.n ≤ n) (h3 : blk r.A = blk A) : ∀ k, blk r.A = some k → k < W.heap.size := by
  intro k hk
  have hl := h.lenb
  obtain ⟨a, ha, hlt⟩ := h.lt (k := 0) (by simp; omega)
  rw [h3, ha] at hk
  simp [blk] at hk
  omega
theorem cut_all {W w w1 : World} {A : Option Addr} {n c : Nat} {l : List UInt8} (hmx : Mx w1) (h : Rd W 1 A n c (l.map b8)) (hn : n ≤ 16384) {L : Option Addr} {m d : Nat} {ll : List Row} (hWw : Below W.heap.size W w) (hbl : Below w.heap.size w w1) (ho : Own w1 w.heap.size 27 1 L m d (ll.map Row.val))
    (hE : ∀ r ∈ ll, Rd w 1 r.A r.n r.c (r.l.map b8) ∧ 1 ≤ r.n ∧ r.n ≤ n ∧ blk r.A = blk A) (hf : flat ll = l) :
    Calls Tryz.prog 20 #[.slice L m d] w1 fun e w' => ∃ A n c l', e = .returned (.tuple #[.slice A n c, .int .i64 (feedW newW l).2.2]) ∧ Reqs w' w1.heap.size A n c l' ∧ l'.map (·.1) = (feedW newW l).1 ∧ Below w1.heap.size w1 w' := by
  have hln := h.lenb
  have h2 := all_any hmx (L := L) (m := m) (d := d) (ll := ll) ⟨ho.rd, fun r hr => (hE r hr).1.below hbl⟩ (by rw [hf]; omega) (fun r hr k hk => by
    have h3 := wcut_blocks h (hE r hr).2.1 (hE r hr).2.2.1 (hE r hr).2.2.2 k hk
    have := hWw.size
    have := hbl.size
    omega)
  rw [hf] at h2
  exact h2

end Go.Proofs.YtckkmdigmecagaaGreatDoor

/-
  The statement WireMade.
-/
namespace Go.Proofs.YtckkmdigmecagaaGreatDoor
open Go.RowKit

theorem cut_all2 {W w w1 : World} {A : Option Addr} {n c : Nat} {l : List UInt8} (hmx : Mx w1) (h : Rd W 1 A n c (l.map b8)) (hn : n ≤ 1048576) {L : Option Addr} {m d : Nat} {ll : List Row} (hWw : Below W.heap.size W w) (hbl : Below w.heap.size w w1) (ho : Own w1 w.heap.size 27 1 L m d (ll.map Row.val))
    (hE : ∀ r ∈ ll, Rd w 1 r.A r.n r.c (r.l.map b8) ∧ 1 ≤ r.n ∧ r.n ≤ n ∧ blk r.A = blk A) (hf : flat ll = l) :
    Calls Tryz.prog 20 #[.slice L m d] w1 fun e w' => ∃ A n c l', e = .returned (.tuple #[.slice A n c, .int .i64 (feedW newW l).2.2]) ∧ Reqs w' w1.heap.size A n c l' ∧ l'.map (·.1) = (feedW newW l).1 ∧ Below w1.heap.size w1 w' := by
  have hln := h.lenb
  have h2 := all_any hmx (L := L) (m := m) (d := d) (ll := ll) ⟨ho.rd, fun r hr => (hE r hr).1.below hbl⟩ (by rw [hf]; omega) (fun r hr k hk => by
    have h3 := wcut_blocks h (hE r hr).2.1 (hE r hr).2.2.1 (hE r hr).2.2.2 k hk
    have := hWw.size
    have := hbl.size
    omega)
  rw [hf] at h2
  exact h2

set_option maxRecDepth 20000 in
set_option maxHeartbeats 16000000 in
theorem wireMade_walk {w : World} (ht : Hx.HTab w) (hm : Mx w) (A : Option Addr) (n c : Nat) (l : List AskP) (h : Asks w A n c l) (A2 : Option Addr) (n2 c2 : Nat) (zs : List Int) (h2 : RdI w A2 n2 c2 zs) :
    Calls Tryz.prog 5 #[.slice A n c, .slice A2 n2 c2] w fun e w' => e = .returned (.bool true) ∧ Below w.heap.size w w' := by
  have HH := Lib.hid h
  have H2 := Lib.hid h2
  have HBG := Lib.hid (wbegun_any w hm (mx_size hm))
  have HM := Lib.hid (fun W (hb : Below w.heap.size w W) => hm.below hb)
  have HT := Lib.hid (fun W (hb : Below w.heap.size w W) => ht.below hb)
  have hlen := h.len
  clear h h2 hm ht
  by_cases hb1 : (10 : Int) < n
  · have hb1' : decide ((10 : Int) < n) = true := decide_eq_true hb1
    clear hb1
    go_enter Tryz.func5, Tryz.ntmps5
    go_wp2_with fail
    refine HBG.out.mono ?_
    rintro e w1 ⟨rfl, hbl1⟩
    go_wp2_with fail
    go_ret
    exact ⟨rfl, hbl1⟩
  have hb1' : decide ((10 : Int) < n) = false := decide_eq_false hb1
  by_cases hb2 : (200 : Int) < n2
  · have hb2' : decide ((200 : Int) < n2) = true := decide_eq_true hb2
    clear hb1 hb2
    go_enter Tryz.func5, Tryz.ntmps5
    go_wp2_with fail
    refine HBG.out.mono ?_
    rintro e w1 ⟨rfl, hbl1⟩
    go_wp2_with fail
    go_ret
    exact ⟨rfl, hbl1⟩
  have hb2' : decide ((200 : Int) < n2) = false := decide_eq_false hb2
  have hn : n ≤ 10 := by omega
  have hn2 : n2 ≤ 200 := by omega
  clear hb1 hb2
  go_enter Tryz.func5, Tryz.ntmps5
  go_wp2_with fail
  refine HBG.out.mono ?_
  rintro e w1 ⟨rfl, hB1⟩
  go_wp2_with fail
  clear hb1' hb2' HBG
  have HB1 := Lib.hid hB1
  clear hB1
  go_loopw [5, 6] (fun s i wr => ∃ (j : Nat) (B : Option Addr) (nB cB : Nat), j ≤ n ∧ s = .slice B nB cB ∧ i = .int .i64 (j : Int) ∧ Hid (Own wr w.heap.size 5 1 B nB cB ((madeAll (l.take j)).map b8)) ∧ Hid (∀ p ∈ l.take j, okP p) ∧ Hid (Below w.heap.size w wr)) (fun _ i _ => n - (intOf i).toNat)
  case atStart => exact ⟨0, none, 0, 0, by omega, rfl, rfl, by simpa [Hid, madeAll] using Own.nil_ w1 w.heap.size 5 1, (show ∀ p ∈ l.take 0, okP p by simp), HB1.out⟩
  case round =>
    obtain ⟨j, B, nB, cB, hj, rfl, rfl, hO, hOK, hB⟩ := hrel
    clear HB1
    have hAr := HH.out.below hB.out
    by_cases hjn : j < n
    · have hx : l[j]? = some (l[j]'(by omega)) := List.getElem?_eq_getElem _
      generalize l[j]'(by omega) = p at hx
      have hidx := fun W => hAr.idx hjn W
      have HLD := Lib.hid (hAr.load hx)
      have hD := hAr.each p (List.mem_of_getElem? hx)
      have hDl := hD.lenb
      have hj' : (j : Int) < n := by omega
      have HX := Lib.hid hx
      have HD := Lib.hid hD
      have hjl : (l.take j).length ≤ 10 := by rw [List.length_take]; omega
      have hal := all_len (l.take j) hOK.out
      have hnB := hO.out.lenb
      have hnB2 : nB ≤ 600000 := by
        have : (l.take j).length * 60000 ≤ 10 * 60000 := Nat.mul_le_mul_right _ hjl
        omega
      have HRI := Lib.hid (right_any p.M p.T p.bd p.sz p.last (w := wr) (D := p.D) (nD := p.nD) (cD := p.cD) hDl)
      clear hx hD hAr hjl hal hnB
      go_wp2_with (refine wpList_load_run rfl 52 _ rfl _ rfl _ HLD.out ?_)
      refine HRI.out.mono ?_
      unfold Righted
      rintro e w3 ⟨b, rfl, hok, hb3⟩
      have hB3 := hB.out.trans (hb3.mono hB.out.size)
      cases b with
      | false =>
        clear HRI HLD hok
        go_wp2_with fail
        go_ret
        exact ⟨rfl, hB3⟩
      | true =>
        have hokp : okP p := hok rfl
        have hA3 := HH.out.below hB3
        have HLD3 := Lib.hid (hA3.load HX.out)
        have HBY := Lib.hid (Bytes_any p.M p.T p.bd p.sz p.last (w := w3) (HD.out.below hb3) (HT.out _ hB3) hokp.1.2.1 hokp.1.2.2.2.2.1 (by have := hokp.2; omega))
        have HOK := Lib.hid hokp
        have HO3 := Lib.hid (hO.out.below hb3)
        have HB3 := Lib.hid hB3
        clear HRI HLD hok hokp hA3 hB3 hb3 hO
        go_wp2_with (refine wpList_load_run rfl 52 _ rfl _ rfl _ HLD3.out ?_)
        refine HBY.out.mono ?_
        unfold Byted
        rintro e w4 ⟨B4, n4, c4, rfl, ho4, hb4⟩
        have hB4 := HB3.out.trans (hb4.mono HB3.out.size)
        have ho3 := HO3.out.below hb4
        have hr4 := ho4.rd
        have hn4 : n4 ≤ 60000 := by
          have h1 := ho4.lenb
          have h2 := made_len HOK.out
          have h3 : p.made.length = n4 := h1
          omega
        have hs4 := hB4.size
        have HB4 := Lib.hid hB4
        clear HBY HO3 HB3 HLD3 ho4 hb4 hB4
        go_wp2_with (at_builtin; refine wpList_app rfl _ _ rfl eb ho3 rfl hr4 rfl (b8_one _) (by omega) (by unfold maxLen; omega) hs4 ?_; intro B5 c5 w5 ho5 hg5 hq5)
        have hB5 := HB4.out.grown hg5 hs4 (fun g hg => (ho3.lt g hg).1)
        have HO5 : Hid (Own w5 w.heap.size 5 1 B5 (nB + n4) c5 ((madeAll (l.take (j + 1))).map b8)) := by
          show Own _ _ _ _ _ _ _ _
          rw [all_snoc HX.out, List.map_append]
          exact ho5
        go_roundw
        case rel => exact ⟨j + 1, B5, nB + n4, c5, by omega, rfl, by go_num, HO5.out, ok_snoc HX.out HOK.out hOK.out, hB5⟩
        case measure => simp [intOf]; omega
    · obtain rfl : j = n := by omega
      have hO' := hO.out
      have hOK' := hOK.out
      rw [List.take_of_length_le (by omega)] at hO' hOK'
      obtain ⟨y, hy⟩ := all_feed l hOK'
      have hal := all_len l hOK'
      have hnB := hO'.lenb
      have hnB2 : nB ≤ 600000 := by
        have : l.length * 60000 ≤ 10 * 60000 := Nat.mul_le_mul_right _ (by omega)
        omega
      have HCU := Lib.hid (CutL_any B nB cB (madeAll l) hO'.rd A2 n2 c2 zs (H2.out.below hB.out) (by omega) (by omega))
      have HO := Lib.hid hO'
      have HY := Lib.hid hy
      clear hO hOK hO' hOK' hy hal hnB hjn
      go_wp2_with fail
      refine HCU.out.mono ?_
      rintro e w3 ⟨L3, m3, d3, ll3, rfl, ho3, hE3, hf3, hm3, hb3⟩
      have hB3 := hB.out.trans (hb3.mono hB.out.size)
      have HAL := Lib.hid (cut_all2 (HM.out _ hB3) HO.out.rd (by omega) (Below.refl _ _) hb3 ho3 hE3 hf3)
      rw [HY.out] at HAL
      have HB3 := Lib.hid hB3
      clear HCU ho3 hE3 hf3 hm3 hb3 hB3 HO
      go_wp2_with fail
      refine HAL.out.mono ?_
      rintro e w4 ⟨R, nR, cR, lr, rfl, hR4, hlr, hb4⟩
      have hB4 := HB3.out.trans (hb4.mono HB3.out.size)
      have HR4 := Lib.hid hR4.rd
      have HLR : Hid (lr.map (·.1) = gotL l) := hlr
      have hRn := hR4.len
      have hgl : (gotL l).length = nR := by rw [← HLR.out, List.length_map, hRn]
      have hmxR : nR ≤ 9223372036854775807 := by
        have := Nat.le_trans HR4.out.row.le HR4.out.row.max
        unfold maxLen at this
        omega
      have HGL := Lib.hid hgl
      have HB4 := Lib.hid hB4
      clear HAL hR4 hlr hb4 hB4 HB3 hgl
      go_wp2_with fail
      go_loopw [9] (fun i wr => ∃ k : Nat, k ≤ j ∧ i = .int .i64 (k : Int) ∧ Hid (∀ (q : Nat) p, q < k → l[q]? = some p → p.last = false) ∧ Hid (Below w4.heap.size w4 wr)) (fun i _ => j - (intOf i).toNat)
      case atStart => exact ⟨0, by omega, rfl, (show ∀ (q : Nat) p, q < 0 → _ from fun q p hq => absurd hq (by omega)), Below.refl _ _⟩
      case round =>
        obtain ⟨k, hk, rfl, hNL, hb⟩ := hrel
        by_cases hkn : k < j
        · have hx : l[k]? = some (l[k]'(by omega)) := List.getElem?_eq_getElem _
          generalize l[k]'(by omega) = p at hx
          obtain ⟨g1, g2⟩ := got_at l k p hx hNL.out
          have hkR : k < nR := by
            have := (List.getElem?_eq_some_iff.1 g1).1
            have := HGL.out
            omega
          have hy : lr[k]? = some (lr[k]'(by omega)) := List.getElem?_eq_getElem _
          generalize lr[k]'(by omega) = q at hy
          have hq : q.1 = p.rq := by
            have h1 : (gotL l)[k]? = some q.1 := by rw [← HLR.out, List.getElem?_map, hy]; rfl
            rw [g1] at h1
            exact (Option.some.inj h1).symm
          have hbW := HB4.out.trans (hb.out.mono HB4.out.size)
          have hA := fun b : Later wr => (HH.out.below (hbW.trans (b.below.mono hbW.size)))
          have hRb := fun b : Later wr => (HR4.out.below (hb.out.trans (b.below.mono hb.out.size)))
          have hidx := fun W => HH.out.idx hkn W
          have hidy := fun W => HR4.out.idx hkR W
          have ca := fun b : Later wr => ((hA b).cells hx).1
          have cb := fun b : Later wr => ((hA b).cells hx).2.1
          have cc := fun b : Later wr => ((hA b).cells hx).2.2.1
          have cd := fun b : Later wr => ((hA b).cells hx).2.2.2
          have ra := fun b : Later wr => (req_cells4 (hRb b).row hy).1
          have rb := fun b : Later wr => (req_cells4 (hRb b).row hy).2.1
          have rc := fun b : Later wr => (req_cells4 (hRb b).row hy).2.2.1
          have rd := fun b : Later wr => (req_cells4 (hRb b).row hy).2.2.2
          have sa := fun b : Later wr => run_str_rd (P := Tryz.prog) (dst := 9) eb Tryz.underlying5 Tryz.underlying9 ((hA b).each p (List.mem_of_getElem? hx))
          have sb := fun b : Later wr => run_str_rd (P := Tryz.prog) (dst := 9) eb Tryz.underlying5 Tryz.underlying9 (((hRb b).each q (List.mem_of_getElem? hy)).2)
          rw [hq] at ra rb rd sb
          unfold AskP.rq at ra rb rd sb
          dsimp only at ra rb rd sb
          have hk' : (k : Int) < j := by omega
          have hkR' : (k : Int) < nR := by omega
          have hd1 : decide ((nR : Int) ≤ (k : Int)) = false := decide_eq_false (by omega)
          have hd2 : decide (nR ≤ k) = false := decide_eq_false (by omega)
          have hd3 : decide (k < nR) = true := decide_eq_true (by omega)
          have HG2 := Lib.hid g2
          have HBW := Lib.hid hbW
          have HX := Lib.hid hx
          have HKN := Lib.hid (show k < j ∧ k < nR from ⟨hkn, hkR⟩)
          clear hx hy hq g1 g2 hA hRb hbW hkn hkR HR4
          generalize p.M = pM at *
          generalize p.T = pT at *
          generalize p.bd = pbd at *
          generalize p.D = pD at *
          generalize p.nD = pnD at *
          generalize p.cD = pcD at *
          generalize q.2.D = qD at *
          generalize q.2.nD = qnD at *
          generalize q.2.cD = qcD at *
          obtain ⟨lt, hlt⟩ : ∃ b, p.last = b := ⟨_, rfl⟩
          rw [hlt] at cd rd HG2
          have HLT := Lib.hid hlt
          clear hlt
          go_upto_region 18 with fail
          refine wp_region_plan (MPlan.reads [0, 1, 2, 3, 4, 5, 6, 7, 8, 9, 10, 11, 12, 13, 14, 15, 16, 17, 18, 19, 20, 21, 22, 23, 24, 25, 26, 27, 28, 29, 30, 31, 32, 33, 34, 35, 36, 37, 38, 39, 40, 41, 42, 43, 44, 45, 46, 47, 48, 49, 50, 51, 52, 53, 54, 55, 56, 57] .fin) (fun x => ∃ b : Later wr, x = b.at') (by kernel_rfl) (by kernel_rfl) (by kernel_rfl) (fun _ _ _ _ _ h => h) ⟨⟨wr.drew, (Below.refl _ _).drew⟩, rfl⟩ ?_
          iterate 56 (refine plan_read (o := ⟨_, _, _, _, _, _⟩) (by rfl) (by rfl) ?_; go_big_quiet_step (fail); refine wpQuiet_nil ?_)
          refine plan_run (o := ⟨_, _, _, _, _, _⟩) (by rfl) (by rfl) (.bool false) (fun w' _ => by cases lt <;> go_simp) ?_
          simp only [Act.put, List.setIfInBounds_toArray, List.set_cons_succ, List.set_cons_zero]
          refine plan_read (o := ⟨_, _, _, _, _, _⟩) (by rfl) (by rfl) ?_
          go_big_quiet_step (fail)
          refine wpQuiet_nil ?_
          refine plan_fin ?_
          have cd' : wr.drew.cell? ⟨(at_ A (k * 5)).block, (at_ A (k * 5)).off + 4, none⟩ = some (.bool lt) := cd ⟨wr.drew, (Below.refl _ _).drew⟩
          have HBD := Lib.hid (HBW.out.drew)
          have HBE := Lib.hid (hb.out.drew)
          clear ca cb cc cd ra rb rc rd sa sb hidy HBW hb hd1 hd2 hd3
          cases lt with
          | true =>
            have e : nR = k + 1 := by
              have := HG2.out rfl
              have := HGL.out
              omega
            subst e
            clear HGL HG2
            go_wp2_with fail
            go_ret
            exact ⟨rfl, HBD.out⟩
          | false =>
            go_wp2_with fail
            go_roundw
            case rel =>
              refine ⟨k + 1, by have := HKN.out; omega, by go_num, fun q p' hq hp => ?_, HBE.out⟩
              by_cases hqk : q < k
              · exact hNL.out q p' hqk hp
              · obtain rfl : q = k := by omega
                rw [HX.out] at hp
                rw [← Option.some.inj hp]
                exact HLT.out
            case measure => simp [intOf]; have := HKN.out; omega
        · obtain rfl : k = j := by omega
          have hg := got_len l (fun q p hq hp => hNL.out q p (by omega) hp)
          have e : nR = k := by
            have := HGL.out
            omega
          have HB := Lib.hid (HB4.out.trans (hb.out.mono HB4.out.size))
          clear hkn hg hNL HGL hb
          subst e
          go_wp2_with fail
          go_ret
          exact ⟨rfl, HB.out⟩

end Go.Proofs.YtckkmdigmecagaaGreatDoor

/-
  How a slice of requests that are asked for, that came in, is opened.
-/
namespace Go.Proofs.YtckkmdigmecagaaGreatDoor
open Go.ChangeShapes Go.WideShapes Go.ChangeAt Go.RowKit Go.Deep

theorem cells_ask : Tryz.prog.cellsOf 52 = 5 := by kernel_rfl
theorem cells_stra : Tryz.prog.cellsOf 9 = 1 := by kernel_rfl
theorem cells_bsa : Tryz.prog.cellsOf 27 = 1 := by kernel_rfl
theorem cells_inta : Tryz.prog.cellsOf 3 = 1 := by kernel_rfl
theorem cells_boola : Tryz.prog.cellsOf 4 = 1 := by kernel_rfl
theorem cells_bytea : Tryz.prog.cellsOf 5 = 1 := by kernel_rfl
set_option maxRecDepth 20000 in
theorem ask_of {H : Type} {enc : TypeId × Value → H} {w : World} {fuel : Nat} {ls : List Value} {x : DataW H × List MemPlace} (hls : ls.length = 5)
    (h : DataW.trod enc Tryz.prog w 0 (fun _ => true) true fuel 52 ls = some x) : ∃ y : AskP, Rd w 1 y.D y.nD y.cD (y.bd.map b8) ∧ ls = y.arr.toList := by
  obtain ⟨xs, n, _, _, hl, hlen, hx⟩ := DataW.trod_struct Tryz.underlying52 h
  have hlen' : xs.length = 5 := by rw [hlen]; rfl
  match xs, hlen' with
  | [y0, y1, y2, y3, y4], _ =>
    match ls, hls with
    | [c0, c1, c2, c3, c4], _ =>
      have h0 : DataW.trod enc Tryz.prog w 0 (fun _ => true) true n 9 (([c0, c1, c2, c3, c4].drop 0).take (Tryz.prog.cellsOf 9)) = some y0 := hx 0 _ rfl
      have h1 : DataW.trod enc Tryz.prog w 0 (fun _ => true) true n 9 (([c0, c1, c2, c3, c4].drop 1).take (Tryz.prog.cellsOf 9)) = some y1 := hx 1 _ rfl
      have h2 : DataW.trod enc Tryz.prog w 0 (fun _ => true) true n 27 (([c0, c1, c2, c3, c4].drop 2).take (Tryz.prog.cellsOf 27)) = some y2 := hx 2 _ rfl
      have h3 : DataW.trod enc Tryz.prog w 0 (fun _ => true) true n 3 (([c0, c1, c2, c3, c4].drop 3).take (Tryz.prog.cellsOf 3)) = some y3 := hx 3 _ rfl
      have h4 : DataW.trod enc Tryz.prog w 0 (fun _ => true) true n 4 (([c0, c1, c2, c3, c4].drop 4).take (Tryz.prog.cellsOf 4)) = some y4 := hx 4 _ rfl
      simp only [cells_stra, cells_bsa, cells_inta, cells_boola, List.drop_zero, List.drop_succ_cons, List.take_succ_cons, List.take_zero] at h0 h1 h2 h3 h4
      obtain ⟨s0, e0, _, z0⟩ := DataW.trod_string Tryz.underlying9 h0
      obtain ⟨s1, e1, _, z1⟩ := DataW.trod_string Tryz.underlying9 h1
      obtain ⟨row, e2, hr⟩ := row_of Tryz.underlying27 Tryz.underlying5 cells_bytea h2
      obtain ⟨z, e3, _, _⟩ := DataW.trod_int Tryz.underlying3 h3
      obtain ⟨b, e4, _⟩ := DataW.trod_bool Tryz.underlying4 h4
      refine ⟨⟨s0.data.toList, s1.data.toList, row.l, z, b, row.A, row.n, row.c⟩, hr, ?_⟩
      simp at e0 e1 e2 e3 e4
      rw [e0, e1, e2, e3, e4]
      cases s0
      cases s1
      rfl

/-- The slice. -/
theorem rd_asks {H : Type} {enc : TypeId × Value → H} {w : World} {a : Option Addr} {len cap : Nat} {d : DataW H} {p : List MemPlace}
    (h : DataW.Trod enc Tryz.prog w 0 (fun _ => true) true 49 (.slice a len cap) d p) : ∃ l : List AskP, Asks w a len cap l := by
  obtain ⟨fuel, hf⟩ := h
  rcases open_slice Tryz.underlying49 hf with ⟨hcs, _⟩ | ⟨x, l, c, m, n, D, Pl, hcs, _, hl, hm, hmm, _, hel⟩
  · simp [Value.cells] at hcs
    obtain ⟨rfl, rfl, rfl⟩ := hcs
    exact ⟨[], Rd.nil_ w 5, by simp⟩
  · simp [Value.cells] at hcs
    obtain ⟨rfl, rfl, rfl⟩ := hcs
    obtain ⟨ll, hll, hq⟩ := choose_list (Q := fun i (y : AskP) => Rd w 1 y.D y.nD y.cD (y.bd.map b8) ∧ ∀ j v, y.arr.toList[j]? = some v → w.cell? (at_ (some x) (i * 5 + j)) = some v) len fun i hi => by
      obtain ⟨cs', hc, htr⟩ := hel i (by simp at hmm; omega)
      rw [cells_ask] at hc
      obtain ⟨_, hl1, hat⟩ := World.cells?_some hc
      obtain ⟨y, hy, rfl⟩ := ask_of (ls := cs') hl1 htr
      refine ⟨y, hy, fun j v hv => ?_⟩
      have hj : j < 5 := (List.getElem?_eq_some_iff.1 hv).1
      have h0 := hat j hj
      rw [at_some, ← add_of_add, h0, hv]
    refine ⟨ll, ⟨by rw [askL_len, hll], hl, hm, (fun h => by cases h), fun j v hv => ?_⟩, fun y hy => ?_⟩
    · have hjl : j < ll.length * 5 := by rw [← askL_len]; exact (List.getElem?_eq_some_iff.1 hv).1
      have hi : j / 5 < ll.length := by omega
      have hx : ll[j / 5]? = some ll[j / 5] := List.getElem?_eq_getElem hi
      have e : j = j / 5 * 5 + j % 5 := by omega
      rw [e, askL_at ll _ _ hx _ (by omega)] at hv
      rw [e]
      exact (hq _ _ hx).2 _ _ hv
    · obtain ⟨i, hi⟩ := List.getElem?_of_mem hy
      exact (hq i y hi).1

end Go.Proofs.YtckkmdigmecagaaGreatDoor

/-
  The table that is laid: of the rows of this seat.
-/
namespace Go.Proofs.YtckkmdigmecagaaGreatDoor
open Go.RowKit

theorem deb_type : (Tryz.prog.globals[6]?).map (·.type) = some 178 := by kernel_rfl
theorem tab_of {W : World} (h : laidMetH Tryz.prog Rows.wireMadeRow.laid W) : Hx.HTab W := by
  rw [MakeChecks.laidMetH_plain _ _ _ (by kernel_rfl)] at h
  obtain ⟨ps, ⟨_, _, _, _, _, _, _, _, _, _, ⟨g, t, cs, f, p, q, hg, ht, hv, hd, _, _⟩, _⟩, _, _⟩ := h
  have e : (Rows.laid_math_bits_deBruijn64tab : DataW Unit) = Lib.tabData .u8 Hx.deb64 := by rfl
  obtain rfl := Option.some.inj (Hx.deb_global.symm.trans hg)
  obtain rfl := Option.some.inj (deb_type.symm.trans ht)
  rw [e] at hd
  unfold Hx.HTab Lib.TabIs
  rw [hv, ← Lib.cells_of_tab Tryz.underlying178 Tryz.underlying5 (by kernel_rfl) (by kernel_rfl) hd]

end Go.Proofs.YtckkmdigmecagaaGreatDoor
