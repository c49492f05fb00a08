/-
  The document's answer to target: Print.
-/
import Derived.Test.YteldghiejmpknaaDoorTaR
namespace Go.Proofs.YteldghiejmpknaaDoor
open Go.RowKit

theorem drewL {w : World} : Below w.heap.size w w.drew := (Below.refl _ _).drew

set_option maxRecDepth 20000 in
set_option maxHeartbeats 8000000 in
theorem RPrint_any {w : World} {A B : Option Addr} {n c m d : Nat} {P : List (List UInt8)} {Q : List Pm} (hS : Ss w A n c P) (hQ : Ps w B m d Q)
    (hp : ∀ p ∈ P, p.length ≤ 1000) (hq : ∀ q ∈ Q, q.1.length ≤ 1000 ∧ q.2.length ≤ 1000) (hn : n ≤ 1000) (hm : m ≤ 1000) :
    Calls Tryd.prog 14 #[.agg (tgA A n c B m d)] w fun e w' => e = .returned (.tuple #[.string ⟨(printR P Q).1.toArray⟩, .int .i64 (printR P Q).2]) ∧ Below w.heap.size w w' := by
  have hPl : P.length = n := by have := Rd.len hS; simpa using this
  have hQl := hQ.len
  have HPL := Lib.hid hPl
  have HQL := Lib.hid hQl
  have HM := Lib.hid (fun W (hb : Below w.heap.size w W) => RMay_any (Rd.below hS hb) (hQ.below hb) (fun p h => Nat.le_trans (hp p h) (by omega)) (fun q h => ⟨Nat.le_trans (hq q h).1 (by omega), Nat.le_trans (hq q h).2 (by omega)⟩) (by omega))
  have HS := Lib.hid hS
  have HQ := Lib.hid hQ
  have hnil := Rd.nil hS
  have hle := Rd.le hS
  have HP1 := Lib.hid hp
  have HQ1 := Lib.hid hq
  obtain ⟨z, hz⟩ : ∃ z, mayF P Q = z := ⟨_, rfl⟩
  rw [hz] at HM
  cases z
  · have hr : printR P Q = ([], 1) := by unfold printR; rw [hz]; rfl
    have HR := Lib.hid hr
    clear hPl hQl hS hQ hp hq hr hz hnil
    go_enter Tryd.func14, Tryd.ntmps14
    go_upto_region 1 with (refine wpList_box rfl _ _ rfl (tgA A n c B m d) rfl ?_; intro w1 hg1 hb1 hz1)
    clear hz1
    go_wp2_with (refine wpList_load_all (by rfl) _ _ rfl w.heap.size rfl _ _ _ _ hg1 Tryd.underlying26 rfl size_tg ?_)
    refine (HM.out _ hb1).mono ?_
    rintro e w2 ⟨rfl, hb2⟩
    have hb12 := hb1.trans (hb2.mono hb1.size)
    go_wp2_with fail
    go_ret2
    rw [HR.out]
    exact ⟨rfl, hb12⟩
  have hr : printR P Q = (printF P Q, 0) := by unfold printR; rw [hz]; rfl
  have HR := Lib.hid hr
  clear hPl hQl hS hQ hp hq hr hz
  go_enter Tryd.func14, Tryd.ntmps14
  go_upto_region 1 with (refine wpList_box rfl _ _ rfl (tgA A n c B m d) rfl ?_; intro w1 hg1 hb1 hz1)
  clear hz1
  go_wp2_with (refine wpList_load_all (by rfl) _ _ rfl w.heap.size rfl _ _ _ _ hg1 Tryd.underlying26 rfl size_tg ?_)
  refine (HM.out _ hb1).mono ?_
  rintro e w2 ⟨rfl, hbl2⟩
  have hb2 := hb1.trans (hbl2.mono hb1.size)
  have hg2 := (hbl2.block _ (Array.getElem?_eq_some_iff.1 hg1).1).trans hg1
  have hlt2 : w.heap.size < w2.heap.size := (Array.getElem?_eq_some_iff.1 hg2).1
  have hBOX : ∀ W, Below w2.heap.size w2 W → W.cell? ⟨w.heap.size, 0, none⟩ = some (.slice A n c) ∧ W.cell? ⟨w.heap.size, 1, none⟩ = some (.slice B m d) := fun W hW => cell_tg ((hW.block _ hlt2).trans hg2)
  have HBOX := Lib.hid hBOX
  have hbw : ∀ W, Below w2.heap.size w2 W → Below w.heap.size w W := fun W hW => hb2.trans (hW.mono (by omega))
  have HBW := Lib.hid hbw
  obtain ⟨hc0, hc1⟩ := hBOX w2 (Below.refl _ _)
  clear hbl2 hg1 hb1 hg2 hBOX hbw hc1
  go_wp2_with fail
  clear hc0
  go_loopw [4, 5] (fun ov i wr => ∃ (k : Nat) (o : List UInt8), k ≤ n ∧ i = .int .i64 k ∧ ov = .string ⟨o.toArray⟩ ∧ Hid (o = printP (P.take k)) ∧ Below w2.heap.size w2 wr) (fun _ i _ => n - (intOf i).toNat)
  case atStart => exact ⟨0, [], by omega, rfl, rfl, rfl, Below.refl _ _⟩
  case round =>
    obtain ⟨k, o, hk, rfl, rfl, hO, hb⟩ := hrel
    have hpl := printP_len (P.take k) (fun p h => HP1.out p (List.mem_of_mem_take h))
    rw [List.length_take, HPL.out, ← hO.out] at hpl
    obtain ⟨hc0, hc1⟩ := HBOX.out wr hb
    have hso := size_mk o
    obtain ⟨lo, hlo⟩ : ∃ lo, o.length = lo := ⟨_, rfl⟩
    rw [hlo] at hso hpl
    have hlo2 : lo ≤ 10000000 := by omega
    have HLO := Lib.hid hlo
    clear hlo
    by_cases hkn : k < n
    · have hx : P[k]? = some (P[k]'(by rw [HPL.out]; exact hkn)) := List.getElem?_eq_getElem _
      generalize P[k]'(by rw [HPL.out]; exact hkn) = p at hx
      have hidx := run_index_rd (P := Tryd.prog) (A := A) (n := n) (c := c) es hnil hle k hkn
      rw [Nat.mul_one] at hidx
      have hcell := Rd.cell (Rd.below HS.out (HBW.out wr hb)) k (strV p) (by rw [List.getElem?_map, hx]; rfl)
      unfold strV at hcell
      have hk' : (k : Int) < n := by omega
      have hp1 := HP1.out p (List.mem_of_getElem? hx)
      have hN : printP (P.take (k + 1)) = o ++ [47] ++ escL p := by rw [printP_take hx, ← hO.out]
      have hel := escL_len p
      have HE := Lib.hid (fun W => REscape_any p (by omega) W)
      obtain ⟨E, hE⟩ : ∃ E, escL p = E := ⟨_, rfl⟩
      rw [hE] at hN hel HE
      have hse := size_mk E
      obtain ⟨le, hle'⟩ : ∃ le, E.length = le := ⟨_, rfl⟩
      rw [hle'] at hse hel
      have hle2 : le ≤ 10000 := by omega
      have HN := Lib.hid hN
      clear hx hkn hpl hN hE hle' hO hc1
      go_wp2_with fail
      refine (HE.out _).mono ?_
      rintro e w4 ⟨rfl, hb4⟩
      have hb4' := hb.trans (hb4.mono hb.size)
      go_wp2_with fail
      go_roundw
      case rel => exact ⟨k + 1, o ++ [47] ++ E, by omega, by go_num, by rw [cat1, cat_mk], HN.out.symm, hb4'⟩
      case measure => simp [intOf]; omega
    · obtain rfl : k = n := by omega
      have hfin : P.take k = P := List.take_of_length_le (by rw [HPL.out]; exact Nat.le_refl _)
      have hO2 : o = printP P := by rw [hO.out, hfin]
      have hemp : (o = [] ∧ P = []) ∨ (o ≠ [] ∧ P ≠ []) := by
        rw [hO2]
        cases P with
        | nil => exact .inl ⟨rfl, rfl⟩
        | cons p P => exact .inr ⟨by simp [printP], by simp⟩
      have HEMP := Lib.hid hemp
      have HO2 := Lib.hid hO2
      clear hkn hfin hpl hO hO2 hemp
      go_upto_if 28 with fail
      go_cut [4] from 28 to 28 (fun ov wx => ∃ r : List UInt8, ov = .string ⟨r.toArray⟩ ∧ Hid (r = rootP P) ∧ r.length ≤ 10000000 ∧ wr = wx)
      case first =>
        rcases HEMP.out with ⟨he, hP⟩ | ⟨he, hP⟩
        · subst he
          have hr : [47] = rootP P := by rw [hP]; rfl
          have HR2 := Lib.hid hr
          clear hr hP
          go_wp2_with fail
          go_meet
          exact ⟨[47], rfl, HR2.out, by simp, rfl⟩
        · have hoi := ne_emp he
          have hr : o = rootP P := by rw [HO2.out]; exact (if_neg hP).symm
          have HR2 := Lib.hid hr
          clear hr hP
          simp only [hoi]
          go_wp2_with fail
          go_meet
          exact ⟨o, rfl, HR2.out, by rw [HLO.out]; omega, rfl⟩
      case rest =>
        obtain ⟨r, rfl, hR, hrl, rfl⟩ := hcut
        clear hso hlo2 HLO HO2 HEMP hc0
        go_wp2_with fail
        clear hc1
        go_loopw [4, 6] (fun ov i wr => ∃ (l : Nat) (o : List UInt8), l ≤ m ∧ i = .int .i64 l ∧ ov = .string ⟨o.toArray⟩ ∧ Hid (o = rootP P ++ printQ 63 (Q.take l)) ∧ Below w2.heap.size w2 wr) (fun _ i _ => m - (intOf i).toNat)
        case atStart => exact ⟨0, r, by omega, rfl, rfl, by show r = _; rw [hR.out]; simp [printQ], hb⟩
        case round =>
          obtain ⟨l, o, hl, rfl, rfl, hO, hb⟩ := hrel
          have hpl := printQ_len (Q.take l) 63 (fun q h => HQ1.out q (List.mem_of_mem_take h))
          rw [List.length_take, HQL.out] at hpl
          have hol : o.length ≤ 20000000 := by
            rw [hO.out, List.length_append, ← hR.out]
            omega
          have hso := size_mk o
          obtain ⟨lo, hlo⟩ : ∃ lo, o.length = lo := ⟨_, rfl⟩
          rw [hlo] at hso hol
          clear hlo hpl
          by_cases hlm : l < m
          · have hx : Q[l]? = some (Q[l]'(by rw [HQL.out]; exact hlm)) := List.getElem?_eq_getElem _
            generalize Q[l]'(by rw [HQL.out]; exact hlm) = q at hx
            have hQr := HQ.out.below (HBW.out wr hb)
            have hidx := fun W => hQr.idx hlm W
            have hl' : (l : Int) < m := by omega
            have hq1 := HQ1.out q (List.mem_of_getElem? hx)
            obtain ⟨mk, hmk⟩ : ∃ mk : UInt8, mk = (if l = 0 then 63 else 38) := ⟨_, rfl⟩
            have hN : rootP P ++ printQ 63 (Q.take (l + 1)) = o ++ [mk] ++ escL q.1 ++ [61] ++ escL q.2 := by
              rw [printQ_take hx, hO.out, hmk]
              simp only [List.append_assoc]
            have hc1L : ∀ b : Later wr, b.at'.cell? ⟨w.heap.size, 1, none⟩ = some (.slice B m d) := fun b => (HBOX.out _ (hb.trans (b.below.mono hb.size))).2
            have hd0L := fun b : Later wr => (hQr.below b.below).name hx
            have hd1L := fun b : Later wr => (hQr.below b.below).value hx
            obtain ⟨x, y⟩ := q
            dsimp only at hq1 hN
            unfold strV at hd0L hd1L
            have hd1L' : ∀ b : Later wr, b.at'.cell? ⟨(at_ B (l * 2)).block, (at_ B (l * 2)).off + 1, none⟩ = some (.string ⟨y.toArray⟩) := fun b => by rw [show (⟨(at_ B (l * 2)).block, (at_ B (l * 2)).off + 1, none⟩ : Addr) = (at_ B (l * 2)).add 1 from rfl, at_add2]; exact hd1L b
            obtain ⟨hqx, hqy⟩ := hq1
            have hex := escL_len x
            have hey := escL_len y
            have HEX := Lib.hid (fun W => REscape_any x (by omega) W)
            have HEY := Lib.hid (fun W => REscape_any y (by omega) W)
            obtain ⟨E, hE⟩ : ∃ E, escL x = E := ⟨_, rfl⟩
            obtain ⟨F, hF⟩ : ∃ F, escL y = F := ⟨_, rfl⟩
            rw [hE] at hN hex HEX
            rw [hF] at hN hey HEY
            have hse := size_mk E
            obtain ⟨le, hle'⟩ : ∃ le, E.length = le := ⟨_, rfl⟩
            rw [hle'] at hse hex
            have hsf := size_mk F
            obtain ⟨lf, hlf'⟩ : ∃ lf, F.length = lf := ⟨_, rfl⟩
            rw [hlf'] at hsf hey
            have hle2 : le ≤ 10000 := by omega
            have hlf2 : lf ≤ 10000 := by omega
            have HN := Lib.hid hN
            have HMK := Lib.hid hmk
            have HB := Lib.hid hb
            have hc1 := hc1L ⟨wr, Below.refl _ _⟩
            dsimp only at hc1
            clear hx hlm hQr hN hmk hE hF hle' hlf' hO hex hey hb
            have HMKS : Hid ((mk = 63 ∧ l = 0) ∨ (mk = 38 ∧ l ≠ 0)) := by
              show _ ∨ _
              rw [HMK.out]
              by_cases h : l = 0
              · exact .inl ⟨if_pos h, h⟩
              · exact .inr ⟨if_neg h, h⟩
            have hsm : (⟨#[mk]⟩ : ByteArray).size = 1 := rfl
            go_upto_if 37 with fail
            go_cut [7] from 37 to 37 (fun z wx => z = .string ⟨#[mk]⟩ ∧ wr = wx)
            case first =>
              rcases HMKS.out with ⟨rfl, rfl⟩ | ⟨rfl, h0⟩
              · go_wp2_with fail
                go_meet
                exact ⟨rfl, rfl⟩
              · have h0' : ((l : Int) == 0) = false := by simpa using h0
                simp only [h0']
                go_wp2_with fail
                go_meet
                exact ⟨rfl, rfl⟩
            case rest =>
              obtain ⟨rfl, rfl⟩ := hcut
              have hb := HB.out
              clear hc1
              go_upto_region 16 with fail
              refine wp_region_plan (MPlan.reads [0, 1, 2, 3, 4, 5, 6, 7, 8, 12, 13, 14, 15, 16, 17] (.one 9 (MPlan.reads [10, 11] (.one 18 (MPlan.reads [19, 20] .fin))))) (fun x => ∃ b : Later wr, x = b.at') (by kernel_rfl) (by kernel_rfl) (by kernel_rfl) (fun _ _ _ _ _ h => h) ⟨⟨wr.drew, drewL⟩, rfl⟩ ?_
              iterate 15 (refine plan_read (o := ⟨_, _, _, _, _, _⟩) (by rfl) (by rfl) ?_; go_big_quiet_step (fail); refine wpQuiet_nil ?_)
              refine plan_one (o := ⟨_, _, _, _, _, _⟩) (by rfl) (fun K hK => ?_)
              go_wp2_with fail
              refine (HEX.out _).mono ?_
              rintro e w5 ⟨rfl, hb5⟩
              have hb5' : Below wr.heap.size wr w5 := drewL.trans hb5
              go_wp2_with fail
              refine hK _ _ ⟨⟨w5, hb5'⟩, rfl⟩ ?_
              clear hK
              iterate 2 (refine plan_read (o := ⟨_, _, _, _, _, _⟩) (by rfl) (by rfl) ?_; go_big_quiet_step (fail); refine wpQuiet_nil ?_)
              refine plan_one (o := ⟨_, _, _, _, _, _⟩) (by rfl) (fun K hK => ?_)
              go_wp2_with fail
              refine (HEY.out _).mono ?_
              rintro e w6 ⟨rfl, hb6⟩
              have hb6' : Below wr.heap.size wr w6 := hb5'.trans (hb6.mono hb5'.size)
              go_wp2_with fail
              refine hK _ _ ⟨⟨w6, hb6'⟩, rfl⟩ ?_
              clear hK
              iterate 2 (refine plan_read (o := ⟨_, _, _, _, _, _⟩) (by rfl) (by rfl) ?_; go_big_quiet_step (fail); refine wpQuiet_nil ?_)
              refine plan_fin ?_
              have hb7 := hb.trans (hb6'.mono hb.size)
              go_wp2_with fail
              go_roundw
              case rel => exact ⟨l + 1, o ++ [mk] ++ E ++ [61] ++ F, by omega, by go_num, by rw [cat1, cat_mk, cat1, cat_mk], HN.out.symm, hb7⟩
              case measure => simp [intOf]; omega
          · obtain rfl : l = m := by omega
            have hfin : Q.take l = Q := List.take_of_length_le (by rw [HQL.out]; exact Nat.le_refl _)
            have hO2 : o = printF P Q := by rw [hO.out, hfin]; rfl
            have hc1 := (HBOX.out wr hb).2
            have hbw := HBW.out wr hb
            clear hlm hfin hO
            subst hO2
            go_wp2_with fail
            go_ret2
            rw [HR.out]
            exact ⟨rfl, hbw⟩

end Go.Proofs.YteldghiejmpknaaDoor
