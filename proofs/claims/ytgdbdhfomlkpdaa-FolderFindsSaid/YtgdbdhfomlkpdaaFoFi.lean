/-
  FolderFinds.
-/
import Derived.Test.YtgdbdhfomlkpdaaFoZ
import Derived.Test.YtgdbdhfomlkpdaaFoN
import Derived.Test.YtgdbdhfomlkpdaaFoO
namespace Go.Proofs.Ytgdbdhfomlkpdaa
open Go.RowKit

set_option maxRecDepth 20000 in
set_option maxHeartbeats 2000000 in
theorem folderFinds_walk {w : World} (A : Option Addr) (n c : Nat) (l : List It) (h : Its w A n c l) (s : ByteArray) (hs : s.size ≤ maxLen) :
    Calls Try.prog 8 #[.slice A n c, .string s] w fun e w' => e = .returned (.bool true) ∧ Below w.heap.size w w' := by
  unfold maxLen at hs
  have HB := Lib.hid (begun_any w)
  have hmx : n ≤ maxLen := Nat.le_trans h.rd.le h.rd.max
  unfold maxLen at hmx
  by_cases hL : lightL l = false
  · go_enter Try.func8, Try.ntmps8
    go_wp2_with fail
    refine HB.out.mono ?_
    rintro e w1 ⟨rfl, hb1⟩
    have HLi := Lib.hid (Light_any (h.below hb1))
    rw [hL] at HLi
    clear hL
    go_wp2_with fail
    refine HLi.out.mono ?_
    rintro e w3 ⟨rfl, rfl⟩
    go_wp2_with fail
    go_ret
    exact ⟨rfl, hb1⟩
  have hL' : lightL l = true := by simpa using hL
  clear hL
  by_cases h200 : (200 : Int) < s.size
  · have h200' : decide ((200 : Int) < s.size) = true := decide_eq_true h200
    go_enter Try.func8, Try.ntmps8
    go_wp2_with fail
    refine HB.out.mono ?_
    rintro e w1 ⟨rfl, hb1⟩
    have HLi := Lib.hid (Light_any (h.below hb1))
    rw [hL'] at HLi
    clear hL' h200
    go_wp2_with fail
    refine HLi.out.mono ?_
    rintro e w3 ⟨rfl, rfl⟩
    go_wp2_with fail
    go_ret
    exact ⟨rfl, hb1⟩
  have h200' : decide ((200 : Int) < s.size) = false := decide_eq_false h200
  have HF := Lib.hid (fun W (hb : Below w.heap.size w W) => Find_any (h.below hb) s)
  have HR := Lib.hid (fun W (hb : Below w.heap.size w W) => RFind_any (h.below hb) s)
  have hok := findF_ok h.ok s
  unfold FindPost at HF HR
  obtain ⟨X, hX⟩ : ∃ X, (findF l s).1 = X := ⟨_, rfl⟩
  obtain ⟨E, hE⟩ : ∃ E, (findF l s).2 = E := ⟨_, rfl⟩
  rw [hX] at hok HF HR
  rw [hE] at HF HR
  have hEE : (E != E) = false := by simp
  clear hX hE h200
  go_enter Try.func8, Try.ntmps8
  go_wp2_with fail
  refine HB.out.mono ?_
  rintro e w1 ⟨rfl, hb1⟩
  have HLi := Lib.hid (Light_any (h.below hb1))
  rw [hL'] at HLi
  clear hL'
  go_wp2_with fail
  refine HLi.out.mono ?_
  rintro e w3 ⟨rfl, rfl⟩
  go_wp2_with fail
  refine (HF.out _ hb1).mono ?_
  rintro e w2 ⟨rfl, hbl2⟩
  have hb2 := hb1.trans (hbl2.mono hb1.size)
  go_wp2_with (first
      | (refine wpList_alloc_zero rfl _ rfl (itA itZ) zero_it ?_; intro w4 hg4 hb4 hz4; clear hz4)
      | (refine wpList_store_all rfl _ _ _ rfl w2.heap.size rfl _ _ (itA X) rfl hg4 (size_it hok) (itA_same itZ_ok hok) itA_one ?_; intro w5 hg5 hgr5 hz5; clear hz5; have hb5 : Below w2.heap.size w2 w5 := hb4.grown hgr5 hb4.size (fun g hg => by injection hg with hg; omega); have hB5 := hb2.trans (hb5.mono hb2.size)))
  refine (HR.out _ hB5).mono ?_
  rintro e w6 ⟨rfl, hbl6⟩
  have hg6 := (hbl6.block _ (Array.getElem?_eq_some_iff.1 hg5).1).trans hg5
  have hlt6 : w2.heap.size < w6.heap.size := (Array.getElem?_eq_some_iff.1 hg6).1
  have hB6 := hB5.trans (hbl6.mono hB5.size)
  clear hg4 hb4 hgr5 hb5 hg5 hbl6
  go_wp2_with (first
      | (refine wpList_alloc_zero rfl _ rfl (itA itZ) zero_it ?_; intro w7 hg7 hb7 hz7; clear hz7)
      | (refine wpList_store_all rfl _ _ _ rfl w6.heap.size rfl _ _ (itA X) rfl hg7 (size_it hok) (itA_same itZ_ok hok) itA_one ?_; intro w8 hg8 hgr8 hz8; clear hz8; have hb8 : Below w6.heap.size w6 w8 := hb7.grown hgr8 hb7.size (fun g hg => by injection hg with hg; omega); have hB8 := hB6.trans (hb8.mono hB6.size); have hg68 := (hb8.block _ hlt6).trans hg6)
      | (refine wpList_load_all (by rfl) _ _ rfl w2.heap.size rfl _ _ _ _ hg68 Try.underlying33 rfl (size_it hok) ?_)
      | (refine wpList_load_all (by rfl) _ _ rfl w6.heap.size rfl _ _ _ _ hg8 Try.underlying33 rfl (size_it hok) ?_)
      | (refine wpList_neq_it (by rfl) _ _ rfl hok hok (by rfl) (by rfl) ?_; rw [itEq_self]))
  have HM := Lib.hid (fun W (hb : Below w.heap.size w W) => May_any (h.below hb))
  clear hg6 hlt6 hB6 hg7 hb7 hg8 hgr8 hb8 hg68 hB5 hb2 hbl2 hb1 HLi HF HR HB hEE hok
  go_loopw [9] (fun i wr => ∃ j : Nat, j ≤ n ∧ i = .int .i64 j ∧ Below w.heap.size w wr) (fun i _ => n - (intOf i).toNat)
  case atStart => exact ⟨0, by omega, rfl, hB8⟩
  case round =>
    obtain ⟨j, hj, rfl, hbr⟩ := hrel
    by_cases hjn : j < n
    · obtain ⟨x, hx⟩ : ∃ x, l[j]? = some x := ⟨_, List.getElem?_eq_getElem (by have := h.len; omega)⟩
      have hr := h.below hbr
      have hidx := run_index_rd (P := Try.prog) (A := A) (n := n) (c := c) ei h.rd.nil h.rd.le j hjn
      have hname : wr.cell? (at_ A (j * 35)) = some (.string x.nm) := hr.name hx
      have HFx := Lib.hid (Find_any hr x.nm)
      unfold FindPost at HFx
      have hokF := findF_ok h.ok x.nm
      have hokx := h.ok x (List.mem_of_getElem? hx)
      by_cases hm : mayL l = true
      · have hfs := findF_self hm hx
        rw [hfs] at HFx hokF
        dsimp only at HFx hokF
        have HX := Lib.hid hx
        rw [hm] at HM
        clear hfs hm hx
        go_wp2_with fail
        refine HFx.out.mono ?_
        rintro e w9 ⟨rfl, hbl9⟩
        have hb9 := hbr.trans (hbl9.mono hbr.size)
        clear HFx hname
        go_wp2_with (first
          | (refine wpList_alloc_zero rfl _ rfl (itA itZ) zero_it ?_; intro w10 hg10 hb10 hz10; clear hz10)
          | (refine wpList_store_all rfl _ _ _ rfl w9.heap.size rfl _ _ (itA x) rfl hg10 (size_it hokx) (itA_same itZ_ok hokx) itA_one ?_; intro w11 hg11 hgr11 hz11; clear hz11; have hb11 : Below w9.heap.size w9 w11 := hb10.grown hgr11 hb10.size (fun g hg => by injection hg with hg; omega); have hB11 := hb9.trans (hb11.mono hb9.size)))
        have hlt11 : w9.heap.size < w11.heap.size := (Array.getElem?_eq_some_iff.1 hg11).1
        have h11 := h.below hB11
        have hldz := fun b : Later w11 => run_loadVar_row (P := Try.prog) b.at' w9.heap.size _ 33 _ _ _ ((b.below.block _ hlt11).trans hg11) Try.underlying33 rfl (size_it hokx)
        have hldx := fun b : Later w11 => (h11.below b.below).load HX.out
        clear hg10 hb10 hgr11 hb11 hg11 hbl9 h11 hr
        refine wp_region_plan (MPlan.read 0 (.one 1 (MPlan.reads [2, 3, 4, 5, 6, 7, 8, 9, 10, 11, 12, 13] .fin))) (fun x => ∃ b : Later w11, x = b.at') (by kernel_rfl) (by kernel_rfl) (by kernel_rfl) (fun _ _ _ _ _ h => h) ⟨⟨w11.drew, (Below.refl _ _).drew⟩, rfl⟩ ?_
        refine plan_read (o := ⟨_, _, _, _, _, _⟩) (by rfl) (by rfl) ?_
        go_big_quiet_step (fail)
        refine wpQuiet_nil ?_
        refine plan_one (o := ⟨_, _, _, _, _, _⟩) (by rfl) (fun K hK => ?_)
        go_wp2_with fail
        refine (HM.out _ hB11.drew).mono ?_
        rintro e w12 ⟨rfl, hbl12⟩
        have hbl12' : Below w11.heap.size w11 w12 := ((Below.refl _ _).drew).trans hbl12
        go_wp2_with fail
        refine hK _ _ ⟨⟨w12, hbl12'⟩, rfl⟩ ?_
        clear hK
        iterate 4 (refine plan_read (o := ⟨_, _, _, _, _, _⟩) (by rfl) (by rfl) ?_; go_big_quiet_step (fail); refine wpQuiet_nil ?_)
        refine plan_load (o := ⟨_, _, _, _, _, _⟩) (by rfl) rfl (by rfl) _ rfl _ (fun w' hS => by obtain ⟨b, rfl⟩ := hS; exact hldz b) ?_
        simp only [Act.put, List.setIfInBounds_toArray, List.set_cons_succ, List.set_cons_zero]
        iterate 3 (refine plan_read (o := ⟨_, _, _, _, _, _⟩) (by rfl) (by rfl) ?_; go_big_quiet_step (fail); refine wpQuiet_nil ?_)
        refine plan_load (o := ⟨_, _, _, _, _, _⟩) (by rfl) rfl (by rfl) _ rfl _ (fun w' hS => by obtain ⟨b, rfl⟩ := hS; exact hldx b) ?_
        simp only [Act.put, List.setIfInBounds_toArray, List.set_cons_succ, List.set_cons_zero]
        refine plan_neq_it (o := ⟨_, _, _, _, _, _⟩) (by rfl) rfl (by rfl) hokx hokx rfl rfl ?_
        rw [itEq_self]
        simp only [Act.put, List.setIfInBounds_toArray, List.set_cons_succ, List.set_cons_zero, Bool.not_true]
        iterate 2 (refine plan_read (o := ⟨_, _, _, _, _, _⟩) (by rfl) (by rfl) ?_; go_big_quiet_step (fail); refine wpQuiet_nil ?_)
        refine plan_fin ?_
        clear hldz hldx hidx
        have hb12 := hB11.trans (hbl12'.mono hB11.size)
        go_wp2_with fail
        go_roundw
        case rel => exact ⟨j + 1, by omega, by go_num, hb12⟩
        case measure => simp [intOf]; omega
      · have hm' : mayL l = false := by simpa using hm
        obtain ⟨Y, hY⟩ : ∃ Y, (findF l x.nm).1 = Y := ⟨_, rfl⟩
        obtain ⟨F, hF⟩ : ∃ F, (findF l x.nm).2 = F := ⟨_, rfl⟩
        rw [hY, hF] at HFx
        rw [hY] at hokF
        rw [hm'] at HM
        clear hY hF hm hm' hx
        go_wp2_with fail
        refine HFx.out.mono ?_
        rintro e w9 ⟨rfl, hbl9⟩
        have hb9 := hbr.trans (hbl9.mono hbr.size)
        clear HFx hname
        go_wp2_with (first
          | (refine wpList_alloc_zero rfl _ rfl (itA itZ) zero_it ?_; intro w10 hg10 hb10 hz10; clear hz10)
          | (refine wpList_store_all rfl _ _ _ rfl w9.heap.size rfl _ _ (itA Y) rfl hg10 (size_it hokF) (itA_same itZ_ok hokF) itA_one ?_; intro w11 hg11 hgr11 hz11; clear hz11; have hb11 : Below w9.heap.size w9 w11 := hb10.grown hgr11 hb10.size (fun g hg => by injection hg with hg; omega); have hB11 := hb9.trans (hb11.mono hb9.size)))
        clear hg10 hb10 hgr11 hb11 hg11 hbl9 hr hidx
        refine wp_region_plan (MPlan.read 0 (.one 1 (MPlan.reads [2, 3, 4, 5, 6, 7, 8, 9, 10, 11, 12, 13] .fin))) (fun x => ∃ b : Later w11, x = b.at') (by kernel_rfl) (by kernel_rfl) (by kernel_rfl) (fun _ _ _ _ _ h => h) ⟨⟨w11.drew, (Below.refl _ _).drew⟩, rfl⟩ ?_
        refine plan_read (o := ⟨_, _, _, _, _, _⟩) (by rfl) (by rfl) ?_
        go_big_quiet_step (fail)
        refine wpQuiet_nil ?_
        refine plan_one (o := ⟨_, _, _, _, _, _⟩) (by rfl) (fun K hK => ?_)
        go_wp2_with fail
        refine (HM.out _ hB11.drew).mono ?_
        rintro e w12 ⟨rfl, hbl12⟩
        have hbl12' : Below w11.heap.size w11 w12 := ((Below.refl _ _).drew).trans hbl12
        go_wp2_with fail
        refine hK _ _ ⟨⟨w12, hbl12'⟩, rfl⟩ ?_
        clear hK
        refine plan_read (o := ⟨_, _, _, _, _, _⟩) (by rfl) (by rfl) ?_
        go_big_quiet_step (fail)
        refine wpQuiet_nil ?_
        iterate 10 (refine plan_skip (o := ⟨_, _, _, _, _, _⟩) (by rfl) (by rfl) ?_; simp only [Act.put, List.setIfInBounds_toArray, List.set_cons_succ, List.set_cons_zero])
        refine plan_read (o := ⟨_, _, _, _, _, _⟩) (by rfl) (by rfl) ?_
        go_big_quiet_step (fail)
        refine wpQuiet_nil ?_
        refine plan_fin ?_
        have hb12 := hB11.trans (hbl12'.mono hB11.size)
        go_wp2_with fail
        go_roundw
        case rel => exact ⟨j + 1, by omega, by go_num, hb12⟩
        case measure => simp [intOf]; omega
    · have e : j = n := by omega
      subst e
      go_wp2_with fail
      go_ret
      exact ⟨rfl, hbr⟩

end Go.Proofs.Ytgdbdhfomlkpdaa
