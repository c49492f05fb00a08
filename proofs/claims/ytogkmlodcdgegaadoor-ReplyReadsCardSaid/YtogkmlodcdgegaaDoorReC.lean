/-
  The document's answer to reply: its statuses and words.
-/
import Derived.Test.YtogkmlodcdgegaaDoorReB
import Derived.Test.YtogkmlodcdgegaaDoorNaT
namespace Go.Proofs.YtogkmlodcdgegaaDoor
open Go.RowKit

def stsA : Array Value := #[.int .i64 200, .int .i64 201, .int .i64 400, .int .i64 401, .int .i64 403, .int .i64 404, .int .i64 405, .int .i64 409, .int .i64 413, .int .i64 431, .int .i64 507]
def wordsA : Array Value := #[.string ⟨#[79, 75]⟩, .string ⟨#[67, 114, 101, 97, 116, 101, 100]⟩, .string ⟨#[66, 97, 100, 32, 82, 101, 113, 117, 101, 115, 116]⟩, .string ⟨#[85, 110, 97, 117, 116, 104, 111, 114, 105, 122, 101, 100]⟩, .string ⟨#[70, 111, 114, 98, 105, 100, 100, 101, 110]⟩, .string ⟨#[78, 111, 116, 32, 70, 111, 117, 110, 100]⟩, .string ⟨#[77, 101, 116, 104, 111, 100, 32, 78, 111, 116, 32, 65, 108, 108, 111, 119, 101, 100]⟩, .string ⟨#[67, 111, 110, 102, 108, 105, 99, 116]⟩, .string ⟨#[67, 111, 110, 116, 101, 110, 116, 32, 84, 111, 111, 32, 76, 97, 114, 103, 101]⟩, .string ⟨#[82, 101, 113, 117, 101, 115, 116, 32, 72, 101, 97, 100, 101, 114, 32, 70, 105, 101, 108, 100, 115, 32, 84, 111, 111, 32, 76, 97, 114, 103, 101]⟩, .string ⟨#[73, 110, 115, 117, 102, 102, 105, 99, 105, 101, 110, 116, 32, 83, 116, 111, 114, 97, 103, 101]⟩]

set_option maxRecDepth 20000 in
set_option maxHeartbeats 4000000 in
theorem Statuses_any (w : World) : Calls Tryd.prog 17 #[] w fun e w' => e = .returned (.agg stsA) ∧ Below w.heap.size w w' := by
  go_enter Tryd.func17, Tryd.ntmps17
  go_wp2_with fail
  exact bodyPost_ret (results_cell_row rfl _ _ w.heap.size _ _ _ _ rfl (heap_new _ _) Tryd.underlying37 rfl (by kernel_rfl)) rfl ⟨rfl, (Below.refl _ _).alloc (Nat.le_refl _) _⟩

/-- The k-th status, and its words. -/
def stI (k : Nat) : Int := ((stL.map Prod.fst)[k]?).getD 0
theorem stI_at : ∀ k : Fin 11, stsA[k.1]? = some (.int .i64 (stI k.1)) ∧ isSt (stI k.1) := by
  intro k
  refine ⟨?_, ?_⟩
  · match k with
    | 0 | 1 | 2 | 3 | 4 | 5 | 6 | 7 | 8 | 9 | 10 => rfl
  · revert k
    decide
theorem words_at : ∀ k : Fin 11, wordsA[k.1]? = some (.string ⟨(reasonL (stI k.1)).toArray⟩) := by
  intro k
  match k with
  | 0 | 1 | 2 | 3 | 4 | 5 | 6 | 7 | 8 | 9 | 10 => rfl
theorem st_all {v : Int} (h : isSt v) : ∃ k : Fin 11, stI k.1 = v := by
  rcases h with rfl | rfl | rfl | rfl | rfl | rfl | rfl | rfl | rfl | rfl | rfl
  · exact ⟨0, rfl⟩
  · exact ⟨1, rfl⟩
  · exact ⟨2, rfl⟩
  · exact ⟨3, rfl⟩
  · exact ⟨4, rfl⟩
  · exact ⟨5, rfl⟩
  · exact ⟨6, rfl⟩
  · exact ⟨7, rfl⟩
  · exact ⟨8, rfl⟩
  · exact ⟨9, rfl⟩
  · exact ⟨10, rfl⟩
theorem idx11 (g I : Nat) (h : I < 11) (W : World) : (Instr.indexAt 37 (.pointer (some ⟨g, 0, none⟩)) (.int .i64 (I : Int))).run Tryd.prog W = .ok (.pointer (some ⟨g, I, none⟩)) W := by
  have hl : Tryd.prog.arrayLen 37 = 11 := by kernel_rfl
  have hz : (sizeOf (Tryd.prog.elem 37)).run Tryd.prog W = .ok 1 W := sizeOf_run (by kernel_rfl) W
  rw [run_indexAt_array (P := Tryd.prog) W 37 ⟨g, 0, none⟩ .i64 (I : Int) (by kernel_rfl), if_pos ⟨by omega, by rw [hl]; omega⟩, hz, Result.andThen_ok]
  have e : (⟨g, 0, none⟩ : Addr).add ((I : Int).toNat * 1) = ⟨g, I, none⟩ := by
    rw [Int.toNat_natCast, Nat.mul_one]
    unfold Addr.add
    split <;> simp_all
  rw [e]
theorem idx11s (g I : Nat) (h : I < 11) (W : World) : (Instr.indexAt 45 (.pointer (some ⟨g, 0, none⟩)) (.int .i64 (I : Int))).run Tryd.prog W = .ok (.pointer (some ⟨g, I, none⟩)) W := by
  have hl : Tryd.prog.arrayLen 45 = 11 := by kernel_rfl
  have hz : (sizeOf (Tryd.prog.elem 45)).run Tryd.prog W = .ok 1 W := sizeOf_run (by kernel_rfl) W
  rw [run_indexAt_array (P := Tryd.prog) W 45 ⟨g, 0, none⟩ .i64 (I : Int) (by kernel_rfl), if_pos ⟨by omega, by rw [hl]; omega⟩, hz, Result.andThen_ok]
  have e : (⟨g, 0, none⟩ : Addr).add ((I : Int).toNat * 1) = ⟨g, I, none⟩ := by
    rw [Int.toNat_natCast, Nat.mul_one]
    unfold Addr.add
    split <;> simp_all
  rw [e]

set_option maxRecDepth 20000 in
set_option maxHeartbeats 4000000 in
theorem RReason_any (v : Int) (w : World) : Calls Tryd.prog 12 #[.int .i64 v] w fun e w' => e = .returned (.string ⟨(reasonL v).toArray⟩) ∧ Below w.heap.size w w' := by
  go_enter Tryd.func12, Tryd.ntmps12
  go_wp2_with fail
  refine (Statuses_any _).mono ?_
  rintro e w2 ⟨rfl, hb2⟩
  have hW2 : w2.heap[w.heap.size]? = some (.cells wordsA 45 (0, 0)) := (hb2.block _ (by simp)).trans (heap_new _ _)
  have hz2 : w.heap.size < w2.heap.size := by have := hb2.size; simp at this; omega
  have hbw2 : Below w.heap.size w w2 := ((Below.refl _ _).alloc (Nat.le_refl _) _).trans (hb2.mono (by simp))
  clear hb2
  unfold stsA
  go_wp2_with fail
  obtain ⟨W, hW⟩ : ∃ W, w2.alloc (.cells stsA 37) = W := ⟨_, rfl⟩
  have hS3 : W.heap[w2.heap.size]? = some (.cells stsA 37 (0, 0)) := by rw [← hW]; exact heap_new _ _
  have hW3 : W.heap[w.heap.size]? = some (.cells wordsA 45 (0, 0)) := by rw [← hW]; exact (Below.heap_alloc w2 _ _ hz2).trans hW2
  have hbW : Below w.heap.size w W := by rw [← hW]; exact hbw2.alloc (by omega) _
  unfold stsA at hW
  rw [hW]
  have HS := Lib.hid hS3
  have HW := Lib.hid hW3
  clear hW hS3 hW3 hW2 hbw2 hz2
  go_loop [5] (fun i => ∃ k : Nat, k ≤ 11 ∧ i = .int .i64 k ∧ Hid (∀ j, j < k → stI j ≠ v)) (fun i => 11 - (intOf i).toNat)
  case atStart => exact ⟨0, by omega, rfl, (show ∀ j, j < 0 → stI j ≠ v from fun j h => absurd h (by omega))⟩
  case round =>
    obtain ⟨k, hk, rfl, hno⟩ := hrel
    by_cases hk11 : k < 11
    · have hi1 := fun X => idx11 w2.heap.size k hk11 X
      have hi2 := fun X => idx11s w.heap.size k hk11 X
      have c1 : W.cell? ⟨w2.heap.size, k, none⟩ = some (.int .i64 (stI k)) := cell_of HS.out (stI_at ⟨k, hk11⟩).1
      have c2 : W.cell? ⟨w.heap.size, k, none⟩ = some (.string ⟨(reasonL (stI k)).toArray⟩) := cell_of HW.out (words_at ⟨k, hk11⟩)
      obtain ⟨T, hT⟩ : ∃ T, stI k = T := ⟨_, rfl⟩
      rw [hT] at c1 c2
      have HT := Lib.hid hT
      clear hT
      by_cases hv : T = v
      · subst hv
        have hk' : (k : Int) < 11 := by omega
        clear hk11
        go_wp2_with fail
        go_ret
        exact ⟨rfl, hbW⟩
      · have hv' : (T == v) = false := by simpa using hv
        have hno2 : ∀ j, j < k + 1 → stI j ≠ v := by
          intro j hj
          by_cases hjk : j < k
          · exact hno.out j hjk
          · obtain rfl : j = k := by omega
            rw [HT.out]
            exact hv
        have HN := Lib.hid hno2
        have hk' : (k : Int) < 11 := by omega
        clear hv hno2 hk11
        go_wp2_with fail
        go_round
        case rel => exact ⟨k + 1, by omega, by go_num, HN.out⟩
        case measure => simp [intOf]; omega
    · obtain rfl : k = 11 := by omega
      have hn : ¬ isSt v := by
        intro h
        obtain ⟨j, hj⟩ := st_all h
        exact hno.out j.1 j.2 hj
      have hr := reason_none hn
      have HR := Lib.hid hr
      clear hn hr hno hk11
      go_wp2_with fail
      go_ret
      rw [HR.out]
      exact ⟨rfl, hbW⟩

/-- A reply's bytes ahead of its body. -/
def fullL (v n : Int) (c : Bool) : List UInt8 := headL v ++ Lib.itoa n ++ tailL c
theorem full_len {v : Int} (hv : isSt v) (n : Int) (h0 : -9223372036854775808 ≤ n) (h1 : n ≤ 9223372036854775807) (c : Bool) : (fullL v n c).length ≤ 106 := by
  have a1 := headL_len hv
  have a2 := Lib.itoa_length_le n h0 h1
  have a3 : (tailL c).length ≤ 23 := by cases c <;> decide
  unfold fullL
  simp only [List.length_append]
  omega
set_option maxRecDepth 20000 in
set_option maxHeartbeats 4000000 in
theorem RHead_any {v : Int} (hv : isSt v) (n : Int) (h0 : -9223372036854775808 ≤ n) (h1 : n ≤ 9223372036854775807) (c : Bool) (w : World) : Calls Tryd.prog 22 #[.int .i64 v, .int .i64 n, .bool c] w fun e w' => e = .returned (.string ⟨(fullL v n c).toArray⟩) ∧ Below w.heap.size w w' := by
  have hb : -9223372036854775808 ≤ v ∧ v ≤ 9223372036854775807 := by unfold isSt at hv; omega
  have HP := Lib.hid (RPrint_any v hb.1 hb.2 w)
  have HQ := Lib.hid (fun w => RPrint_any n h0 h1 w)
  have hl := itoa_3 v hv
  have hr := (reason_some hv).2
  have hfin : (⟨(fullL v n c).toArray⟩ : ByteArray) = (⟨#[72, 84, 84, 80, 47, 49, 46, 49, 32]⟩ ++ printB v ++ ⟨#[32]⟩ ++ ⟨(reasonL v).toArray⟩ ++ ⟨#[13, 10, 67, 111, 110, 116, 101, 110, 116, 45, 76, 101, 110, 103, 116, 104, 58, 32]⟩ ++ printB n ++ ⟨(tailL c).toArray⟩) := by
    unfold printB fullL headL
    apply ByteArray.ext
    apply Array.ext'
    simp
  have HF := Lib.hid hfin
  have hps : (printB v).size = 3 := hl
  have hqs : (printB n).size ≤ 21 := Lib.itoa_length_le n h0 h1
  have hrs : (⟨(reasonL v).toArray⟩ : ByteArray).size ≤ 31 := hr
  obtain ⟨B, hB⟩ : ∃ B, printB v = B := ⟨_, rfl⟩
  obtain ⟨D, hD⟩ : ∃ D, printB n = D := ⟨_, rfl⟩
  obtain ⟨C, hC⟩ : ∃ C, (⟨(reasonL v).toArray⟩ : ByteArray) = C := ⟨_, rfl⟩
  have HR := Lib.hid (RReason_any v w)
  rw [hB] at HP hps HF
  rw [hD] at HQ hqs HF
  rw [hC] at HR hrs HF
  clear hb hl hr hfin hB hC hv hD h0 h1
  cases c
  all_goals
    go_enter Tryd.func22, Tryd.ntmps22
    go_wp2_with fail
    refine HP.out.mono ?_
    rintro e w1 ⟨rfl, rfl⟩
    go_wp2_with fail
    refine HR.out.mono ?_
    rintro e w2 ⟨rfl, hb2⟩
    go_wp2_with fail
    refine (HQ.out _).mono ?_
    rintro e w3 ⟨rfl, rfl⟩
    go_wp2_with fail
    go_ret
    rw [HF.out]
    refine ⟨congrArg (fun x => Ending.returned (Value.string x)) ?_, hb2⟩
    apply ByteArray.ext
    apply Array.ext'
    simp [tailL]

set_option maxRecDepth 20000 in
set_option maxHeartbeats 4000000 in
theorem RBytes_any {w : World} {A : Option Addr} {n c : Nat} {l : List UInt8} (h : Rd w 1 A n c (l.map b8)) (hn : n ≤ 1073741824) (v : Int) (b : Bool) :
    Calls Tryd.prog 10 #[.agg (rpA v A n c b)] w fun e w' => ∃ A' n' c', e = .returned (.tuple #[.slice A' n' c', .int .i64 (bytesR v l b).2]) ∧ Own w' w.heap.size 5 1 A' n' c' ((bytesR v l b).1.map b8) ∧ Below w.heap.size w w' := by
  have HR := Lib.hid (RReason_any v)
  have hln := h.lenb
  by_cases hv : isSt v
  · have hbr : bytesR v l b = (fullL v (l.length : Int) b ++ l, 0) := if_pos hv
    rw [hbr, hln]
    obtain ⟨RB, hRB⟩ : ∃ RB, (⟨(reasonL v).toArray⟩ : ByteArray) = RB := ⟨_, rfl⟩
    have hne : RB.toList.isEmpty = false := empty_ne RB (by rw [← hRB]; exact (reason_some hv).1)
    rw [hRB] at HR
    obtain ⟨HB, hHB⟩ : ∃ HB, (⟨(fullL v (n : Int) b).toArray⟩ : ByteArray) = HB := ⟨_, rfl⟩
    have hH : HB.size ≤ 106 := by rw [← hHB]; exact full_len hv _ (by omega) (by omega) b
    have HH := Lib.hid (fun W => RHead_any hv (n : Int) (by omega) (by omega) b W)
    rw [hHB] at HH
    have hcat : (HB.data.toList.map b8 ++ l.map b8) = ((fullL v (n : Int) b ++ l).map b8) := by
      rw [← List.map_append, ← hHB]
    have HCAT := Lib.hid hcat
    have HV := Lib.hid h
    clear hRB hHB hcat hln hbr h
    go_enter Tryd.func10, Tryd.ntmps10
    go_wp2_with (first
      | (refine wpList_box rfl _ _ rfl (rpA v A n c b) rfl ?_; intro w1 hg1 hb1 hz1; have h0' : w1.cell? ⟨w.heap.size, 0, none⟩ = some (.int .i64 v) := cell_of hg1 rfl))
    refine (HR.out _).mono ?_
    rintro e w2 ⟨rfl, hb2⟩
    have hbw2 := hb1.trans (hb2.mono hb1.size)
    have hg2 := (hb2.block w.heap.size (by omega)).trans hg1
    have hlt2 : w.heap.size < w2.heap.size := by have := hb2.size; omega
    have h0 : ∀ x : Later w2, x.at'.cell? ⟨w.heap.size, 0, none⟩ = some (.int .i64 v) := fun x => cell_of ((x.below.block _ hlt2).trans hg2) rfl
    have h1 : ∀ x : Later w2, x.at'.cell? ⟨w.heap.size, 1, none⟩ = some (.slice A n c) := fun x => cell_of ((x.below.block _ hlt2).trans hg2) rfl
    have h2 : ∀ x : Later w2, x.at'.cell? ⟨w.heap.size, 2, none⟩ = some (.bool b) := fun x => cell_of ((x.below.block _ hlt2).trans hg2) rfl
    clear hg1 hg2 h0' hlt2
    go_wp2_with fail
    refine wp_region_plan (MPlan.reads [0, 1, 2, 3, 4, 5, 6, 9, 10] (.one 7 (.one 8 (.one 11 (MPlan.reads [12, 13] .fin))))) (fun x => ∃ b : Later w2, x = b.at') (by kernel_rfl) (by kernel_rfl) (by kernel_rfl) (fun _ _ _ _ _ h => h) ⟨⟨w2.drew, (Below.refl _ _).drew⟩, rfl⟩ ?_
    iterate 9 (refine plan_read (o := ⟨_, _, _, _, _, _⟩) (by rfl) (by rfl) ?_; go_big_quiet_step (fail); refine wpQuiet_nil ?_)
    have hd2 := (Below.refl w2.heap.size w2).drew
    clear h0 h1 h2
    refine plan_one (o := ⟨_, _, _, _, _, _⟩) (by rfl) (fun K hK => ?_)
    go_wp2_with fail
    refine (HH.out _).mono ?_
    rintro e w3 ⟨rfl, hb3⟩
    have hb23 := hd2.trans hb3
    go_wp2_with fail
    refine hK _ _ ⟨⟨w3, hb23⟩, rfl⟩ ?_
    clear hK
    have hbw3 := hbw2.trans (hb23.mono hbw2.size)
    refine plan_one (o := ⟨_, _, _, _, _, _⟩) (by rfl) (fun K hK => ?_)
    go_wp2_with (refine wpList_s2b rfl _ rfl Tryd.underlying9 Tryd.underlying22 Tryd.underlying5 HB rfl (by omega) ?_; intro c4 w4 ho4 hb4)
    have hb24 := hb23.trans (hb4.mono hb23.size)
    have hbw4 := hbw2.trans (hb24.mono hbw2.size)
    refine hK _ _ ⟨⟨w4, hb24⟩, rfl⟩ ?_
    clear hK
    refine plan_one (o := ⟨_, _, _, _, _, _⟩) (by rfl) (fun K hK => ?_)
    go_wp2_with (at_builtin; refine wpList_app rfl _ _ rfl eb (ho4.mono (b' := w.heap.size) hbw3.size) rfl (HV.out.below hbw4) rfl (b8_one _) (by omega) (by unfold maxLen; omega) hbw4.size ?_; intro A5 c5 w5 ho5 hg5 hq5)
    have hbw5 := hbw4.grown hg5 hbw4.size (fun g hg => Nat.le_trans hbw3.size (ho4.lt g hg).1)
    have hb25 := hb24.grown hg5 (by have := hb24.size; omega) (fun g hg => Nat.le_trans hb23.size (ho4.lt g hg).1)
    refine hK _ _ ⟨⟨w5, hb25⟩, rfl⟩ ?_
    clear hK
    iterate 2 (refine plan_read (o := ⟨_, _, _, _, _, _⟩) (by rfl) (by rfl) ?_; go_big_quiet_step (fail); refine wpQuiet_nil ?_)
    refine plan_fin ?_
    rw [HCAT.out] at ho5
    go_wp2_with fail
    go_ret2
    exact ⟨A5, _, c5, rfl, ho5, hbw5⟩
  · have hbr : bytesR v l b = ([], 1) := if_neg hv
    rw [hbr]
    rw [reason_none hv] at HR
    clear hv hbr
    go_enter Tryd.func10, Tryd.ntmps10
    go_wp2_with (first
      | (refine wpList_box rfl _ _ rfl (rpA v A n c b) rfl ?_; intro w1 hg1 hb1 hz1; have h0 : w1.cell? ⟨w.heap.size, 0, none⟩ = some (.int .i64 v) := cell_of hg1 rfl; clear hg1 hz1))
    refine (HR.out _).mono ?_
    rintro e w2 ⟨rfl, hb2⟩
    have hbw2 := hb1.trans (hb2.mono hb1.size)
    go_wp2_with fail
    go_ret2
    exact ⟨none, 0, 0, rfl, Own.nil_ _ _ _ _, hbw2⟩

end Go.Proofs.YtogkmlodcdgegaaDoor
