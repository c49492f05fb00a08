/-
  The document's answer to reply: Take.
-/
import Derived.Test.YtogkmlodcdgegaaDoorReL
import Derived.Test.YtogkmlodcdgegaaDoorReF
import Derived.Test.YtogkmlodcdgegaaDoorNaJ
namespace Go.Proofs.YtogkmlodcdgegaaDoor
open Go.RowKit

/-- All blocks but g as they were. -/
structure KeepBut (w : World) (g : Nat) where
  at' : World
  same : ∀ k, k < w.heap.size → k ≠ g → at'.heap[k]? = w.heap[k]?
instance (w : World) (g : Nat) : Nonempty (KeepBut w g) := ⟨⟨w, fun _ _ _ => rfl⟩⟩
theorem took_end2 {w wy w8 w9 : World} {T : List UInt8} {c8 : Nat} {v N : Int} {b : Bool} (ho8 : Own w8 wy.heap.size 5 1 (some ⟨wy.heap.size, 0, none⟩) T.length c8 (T.map b8)) (hlt : w.heap.size < wy.heap.size)
    (hB : Below w.heap.size w wy) (hb8 : Below wy.heap.size wy w8) (hgr9 : w8.grownBy w9 (some w.heap.size)) :
    TookRep w ⟨v, T, b, N, 0⟩ (.returned (.tuple #[.agg (rpA v (some ⟨wy.heap.size, 0, none⟩) T.length c8 b), .int .i64 N, .int .i64 0])) w9 := by
  have hbk : blk (some (⟨wy.heap.size, 0, none⟩ : Addr)) = some wy.heap.size := rfl
  refine ⟨_, _, _, rfl, ?_, ?_⟩
  · exact (ho8.grown hgr9 (fun k hk e => by
      rw [hbk] at hk
      have h2 := Option.some.inj hk
      have h3 := Option.some.inj e
      omega)).mono hB.size
  · have h1 := hB.trans (hb8.mono hB.size)
    exact h1.grown hgr9 h1.size (fun g hg => by obtain rfl := Option.some.inj hg; exact Nat.le_refl _)
set_option maxRecDepth 20000 in
set_option maxHeartbeats 16000000 in
theorem RTake_any {w : World} {A : Option Addr} {n c : Nat} {l : List UInt8} (h : Rd w 1 A n c (l.map b8)) (hn : n ≤ 1073741824) :
    Calls Tryd.prog 16 #[.slice A n c] w (TookRep w (loopD sts l false)) := by
  have hln := h.lenb
  have HLN := Lib.hid hln
  have hll : (l.length : Int) ≤ 1073741824 := by omega
  have hll2 : l.length ≤ 1073741824 := by omega
  have HBAD := Lib.hid (took_bad w)
  have hstr := fun W (hb : Below w.heap.size w W) => str_rd (h.below hb)
  have HSTR := Lib.hid hstr
  clear h hln hstr
  go_enter Tryd.func16, Tryd.ntmps16
  go_wp2_with (refine wpList_alloc_zero rfl _ rfl rpZ zero_rp ?_; intro w1 hg1 hb1 hz1; have hlt1 : w.heap.size < w1.heap.size := (by omega); clear hz1; have hs1 := HSTR.out _ hb1)
  refine (Statuses_any _).mono ?_
  rintro e w2 ⟨rfl, hb2⟩
  have hG2 := (hb2.block _ hlt1).trans hg1
  have hbw2 := hb1.trans (hb2.mono (Nat.le_of_lt hlt1))
  have hlt2 : w.heap.size < w2.heap.size := by have := hb2.size; omega
  clear hg1 hb1 hb2 hlt1 hs1
  unfold stsA
  go_wp2_with fail
  obtain ⟨W, hW⟩ : ∃ W, w2.alloc (.cells stsA 37) = W := ⟨_, rfl⟩
  have hS3 : W.heap[w2.heap.size]? = some (.cells stsA 37 (0, 0)) := by rw [← hW]; exact heap_new _ _
  have hG3 : W.heap[w.heap.size]? = some (.cells rpZ 24 (0, 0)) := by rw [← hW]; exact (Below.heap_alloc w2 _ _ hlt2).trans hG2
  have hbW : Below w.heap.size w W := by rw [← hW]; exact hbw2.alloc (by omega) _
  have hltW : w2.heap.size < W.heap.size := by rw [← hW]; simp
  unfold stsA at hW
  rw [hW]
  obtain ⟨g6, hg6⟩ : ∃ g6, w2.heap.size = g6 := ⟨_, rfl⟩
  rw [hg6] at hS3 hltW hlt2 ⊢
  have HS := Lib.hid hS3
  have HG := Lib.hid hG3
  clear hW hS3 hG3 hG2 hbw2 hg6
  go_loopw [7, 8] (fun sh i wr => ∃ (k : Nat) (s : Bool), k ≤ 11 ∧ sh = .bool s ∧ i = .int .i64 k ∧ Hid (loopD sts l false = loopD (sts.drop k) l s) ∧ Below W.heap.size W wr) (fun _ i _ => 11 - (intOf i).toNat)
  case atStart => exact ⟨0, false, by omega, rfl, rfl, (show _ = _ from rfl), Below.refl _ _⟩
  case round =>
    obtain ⟨k, s, hk, rfl, rfl, hH, hb⟩ := hrel
    by_cases hk11 : k < 11
    · have hi1 := idx11 g6 k hk11
      have hst : isSt (stI k) := (stI_at ⟨k, hk11⟩).2
      have hS := (hb.block _ hltW).trans HS.out
      have c1 : wr.cell? ⟨g6, k, none⟩ = some (.int .i64 (stI k)) := cell_of hS (stI_at ⟨k, hk11⟩).1
      have hkd := sts_drop k hk11
      rw [hkd] at hH
      have hk' : (k : Int) < 11 := by omega
      obtain ⟨v, hv⟩ : ∃ v, stI k = v := ⟨_, rfl⟩
      have HKV := Lib.hid hv
      rw [hv] at hst hH c1
      have HH := Lib.hid (RHead_any hst 0 (by omega) (by omega) false wr)
      have hlen : (fullL v 0 false).length = (headL v).length + 5 := by rw [full_0]; simp
      have htake : (fullL v 0 false).take ((fullL v 0 false).length - 5) = headL v := by
        rw [hlen, full_0]
        simp
      have hsl := run_str_h (P := Tryd.prog) Tryd.underlying9 (fullL v 0 false) ((fullL v 0 false).length - 5) (by omega) (kh := .i64)
      have ecast : (((fullL v 0 false).length - 5 : Nat) : Int) = ((fullL v 0 false).length : Int) - 5 := by omega
      rw [htake, ecast] at hsl
      have hfl := full_len hst 0 (by omega) (by omega) false
      obtain ⟨F, hF⟩ : ∃ F, fullL v 0 false = F := ⟨_, rfl⟩
      rw [hF] at HH hsl hfl hlen
      have hhl := headL_len hst
      have hF5 : (5 : Int) ≤ (F.length : Int) := by omega
      have HB := Lib.hid (fun W => begins_any (headL v) l W)
      have HST := Lib.hid hst
      have HX := Lib.hid hH.out
      rw [loopD] at HX
      obtain ⟨H, hHd⟩ : ∃ H, headL v = H := ⟨_, rfl⟩
      rw [hHd] at HB HX hsl hhl
      have HSL := Lib.hid hsl
      have HI1 := Lib.hid hi1
      have hc0 : ∀ X : World, X.heap[g6]? = W.heap[g6]? → X.cell? ⟨g6, k, none⟩ = some (.int .i64 v) := fun X h1 => by
        rw [← HKV.out]
        exact cell_of (h1.trans HS.out) (stI_at ⟨k, hk11⟩).1
      have HC1 := Lib.hid hc0
      clear hc0
      clear hi1 hsl hS hkd hv hst hlen htake ecast hF hHd hH hk11
      have hi1 := HI1.out
      go_wp2_with fail
      refine HH.out.mono ?_
      rintro e w4 ⟨rfl, hb4⟩
      have hb34 := hb.trans (hb4.mono hb.size)
      have hsl := HSL.out
      go_wp2_with fail
      refine (HB.out _).mono ?_
      rintro e w5 ⟨rfl, hb5⟩
      have hb35 := hb34.trans (hb5.mono hb34.size)
      clear hb4 hb5 hb34 hsl hi1 c1
      by_cases hbg : begB H l = false
      · rw [if_pos hbg] at HX
        rw [hbg]
        go_wp2_with fail
        go_roundw
        case rel => exact ⟨k + 1, s, by omega, rfl, by go_num, HX.out, hb35⟩
        case measure => simp [intOf]; omega
      · have hbg' : begB H l = true := by simpa using hbg
        rw [if_neg hbg] at HX
        rw [hbg']
        clear hbg hbg'
        by_cases hle : l.length ≤ H.length
        · rw [if_pos hle] at HX
          have hle' : (l.length : Int) ≤ H.length := by omega
          clear hle
          go_wp2_with fail
          go_roundw
          case rel => exact ⟨k + 1, true, by omega, rfl, by go_num, HX.out, hb35⟩
          case measure => simp [intOf]; omega
        · rw [if_neg hle] at HX
          have hle' : (H.length : Int) < l.length := by omega
          have HD := Lib.hid (digits_any l H.length (by omega) hll2)
          have hdl : (digitsL l H.length).length ≤ 20 := by
            unfold digitsL
            rw [List.length_take]
            omega
          obtain ⟨D, hD⟩ : ∃ D, digitsL l H.length = D := ⟨_, rfl⟩
          rw [hD] at HD HX hdl
          have HNU := Lib.hid (fun W => RNumber_any ⟨D.toArray⟩ (by rw [size_mk]; omega) W)
          have hnr := numR_range ⟨D.toArray⟩
          obtain ⟨R, hR⟩ : ∃ R, numR ⟨D.toArray⟩ = R := ⟨_, rfl⟩
          rw [hR] at HNU HX hnr
          obtain ⟨N, E⟩ := R
          dsimp only at HNU HX hnr
          have hdl' : (D.length : Int) ≤ 20 := by omega
          have hhl' : (H.length : Int) ≤ 62 := by omega
          clear hD hR hle
          go_wp2_with fail
          refine (HD.out _).mono ?_
          rintro e w6 ⟨rfl, rfl⟩
          go_wp2_with fail
          refine (HNU.out _).mono ?_
          rintro e w6 ⟨rfl, rfl⟩
          by_cases hE : E = 0
          · subst hE
            rw [if_neg (by decide)] at HX
            by_cases hlen : l.length = H.length + D.length
            · rw [if_pos hlen] at HX
              have hlen' : ((l.length : Int) == (H.length : Int) + (D.length : Int)) = true := by rw [beq_iff_eq]; omega
              clear hlen
              go_wp2_with fail
              go_roundw
              case rel => exact ⟨k + 1, true, by omega, rfl, by go_num, HX.out, hb35⟩
              case measure => simp [intOf]; omega
            · rw [if_neg hlen] at HX
              have hlen' : ((l.length : Int) == (H.length : Int) + (D.length : Int)) = false := by rw [beq_eq_false_iff_ne]; omega
              obtain ⟨vs, hvs⟩ : ∃ vs, sts.drop (k + 1) = vs := ⟨_, rfl⟩
              rw [hvs] at HX
              have HVS := Lib.hid hvs
              have HX0 : Hid (loopD sts l false = contD v N l vs 0 s) := HX.out
              obtain ⟨hN0, hN1⟩ := hnr
              have HN0 := Lib.hid hN0
              have HN1 := Lib.hid hN1
              clear hlen HX hvs HNU HD hN0 hN1
              go_wp2_with fail
              go_loopw [7, 13] (fun sh kk wx => ∃ (j : Nat) (s' : Bool), j ≤ 2 ∧ sh = .bool s' ∧ kk = .int .i64 j ∧ Hid (loopD sts l false = contD v N l vs j s') ∧ Below W.heap.size W wx) (fun _ kk _ => 2 - (intOf kk).toNat)
              case atStart => exact ⟨0, s, by omega, rfl, rfl, HX0.out, hb35⟩
              case round =>
                clear hb35 hb HX0
                obtain ⟨j, s', hj, rfl, rfl, hJ, hbx⟩ := hrel
                have hjc : j = 0 ∨ j = 1 ∨ j = 2 := by omega
                clear hj
                rcases hjc with rfl | rfl | rfl
                · rw [show ((0 : Nat) : Int) = 0 from rfl]
                  have HHK := Lib.hid (RHead_any HST.out N (Int.le_trans (by decide) HN0.out) HN1.out false wr)
                  have hGl := full_len HST.out N (Int.le_trans (by decide) HN0.out) HN1.out false
                  have hin := fun h => inner_no (v := v) (n := N) (b := l) (s := s') (k := false) h
                  have his := fun h => inner_short (v := v) (n := N) (b := l) (s := s') (k := false) h
                  have hiy := fun h => inner_yes (v := v) (n := N) (b := l) (s := s') (k := false) h
                  obtain ⟨G, hG⟩ : ∃ G, fullL v N false = G := ⟨_, rfl⟩
                  rw [hG] at HHK hGl hin his hiy
                  have HIN := Lib.hid hin
                  have HIS := Lib.hid his
                  have HIY := Lib.hid hiy
                  have hGl' : (G.length : Int) ≤ 106 := by omega
                  have hi1 := HI1.out
                  have c1 := HC1.out wr (hbx.block g6 hltW)
                  clear hG hin his hiy
                  go_wp2_with fail
                  refine HHK.out.mono ?_
                  rintro e wy ⟨rfl, hby⟩
                  have hbxy := hbx.trans (hby.mono hbx.size)
                  go_wp2_with fail
                  refine (begins_any G l wy).mono ?_
                  rintro e wz ⟨rfl, hbz⟩
                  have hbxz := hbxy.trans (hbz.mono hbxy.size)
                  clear hi1 c1 hby hbz hbxy HHK
                  by_cases hbg : begB G l = false
                  · have hnx := (hJ.out.trans (cont_none0 (HIN.out hbg)))
                    have HNX := Lib.hid hnx
                    rw [hbg]
                    clear hnx hbg HIS HIY
                    go_wp2_with fail
                    go_roundw
                    case rel => exact ⟨1, s', by omega, rfl, rfl, HNX.out, hbxz⟩
                    case measure => simp [intOf]
                  · have hbg' : begB G l = true := by simpa using hbg
                    rw [hbg']
                    by_cases hc1 : l.length < G.length
                    · have hnx := (hJ.out.trans (cont_none0 (HIS.out hbg' (.inl hc1))))
                      have HNX := Lib.hid hnx
                      have hc1' : (l.length : Int) < G.length := by omega
                      clear hnx hbg hbg' HIN HIY hc1
                      go_wp2_with fail
                      go_roundw
                      case rel => exact ⟨1, true, by omega, rfl, rfl, HNX.out, hbxz⟩
                      case measure => simp [intOf]
                    · have hc1' : (G.length : Int) ≤ l.length := by omega
                      have hc1d : decide (l.length < G.length) = false := decide_eq_false hc1
                      by_cases hc2 : (l.length : Int) - (G.length : Int) < N
                      · have hnx := (hJ.out.trans (cont_none0 (HIS.out hbg' (.inr hc2))))
                        have HNX := Lib.hid hnx
                        clear hnx hbg hbg' HIN HIY hc1
                        go_wp2_with fail
                        go_roundw
                        case rel => exact ⟨1, true, by omega, rfl, rfl, HNX.out, hbxz⟩
                        case measure => simp [intOf]
                      · have hnx := (hJ.out.trans (cont_some0 (HIY.out hbg' (fun h => by rcases h with h | h; exact hc1 h; exact hc2 h))))
                        obtain ⟨M, hM⟩ := Int.eq_ofNat_of_zero_le HN0.out
                        subst hM
                        rw [Int.toNat_natCast] at hnx
                        have hc2' : (M : Int) ≤ (l.length : Int) - (G.length : Int) := by omega
                        have hc2d : decide ((l.length : Int) - (G.length : Int) < (M : Int)) = false := decide_eq_false hc2
                        have hTl : ((l.drop G.length).take M).length = M := by rw [List.length_take, List.length_drop]; omega
                        have hslh := run_str_lh (P := Tryd.prog) Tryd.underlying9 l G.length (G.length + M) (by omega) (by omega) (kl := .i64) (kh := .i64) (I := (G.length : Int)) (J := (G.length : Int) + (M : Int)) rfl (by omega)
                        rw [Nat.add_sub_cancel_left] at hslh
                        obtain ⟨T, hT⟩ : ∃ T, (l.drop G.length).take M = T := ⟨_, rfl⟩
                        rw [hT] at hslh hnx hTl
                        have HNX := Lib.hid hnx
                        have HTL := Lib.hid hTl
                        have hTM : (⟨T.toArray⟩ : ByteArray).size ≤ 1073741824 := by rw [size_mk, hTl]; omega
                        have HTM := Lib.hid hTM
                        have HSLH := Lib.hid hslh
                        have HBW := Lib.hid (hbW.trans (hbxz.mono hbW.size))
                        have hgz := (hbxz.block _ (by omega)).trans HG.out
                        have hltz : w.heap.size < wz.heap.size := by have := hbxz.size; omega
                        have hc6 : ∀ q : KeepBut wz w.heap.size, q.at'.cell? ⟨g6, k, none⟩ = some (.int .i64 v) := fun q => HC1.out q.at' ((q.same g6 (by have := hbxz.size; omega) (by omega)).trans (hbxz.block g6 hltW))
                        have HC6 := Lib.hid hc6
                        clear hnx hbg hbg' HIN HIS HIY hc1 hc2 hT hslh hc6 hTl hTM
                        go_wp2_with fail
                        have hslh := HSLH.out
                        have hc6 := HC6.out
                        have hi1 := HI1.out
                        refine wp_region_plan (MPlan.reads [0, 1, 2, 3, 4, 5, 6, 7, 9, 10, 12] (.one 8 (.read 11 (.one 13 (MPlan.reads [14, 15] .fin))))) (fun x => ∃ q : KeepBut wz w.heap.size, x = q.at') (by kernel_rfl) (by kernel_rfl) (by kernel_rfl) (fun _ _ _ _ _ h => h) ⟨⟨wz.drew, fun _ _ _ => rfl⟩, rfl⟩ ?_
                        iterate 11 (refine plan_read (o := ⟨_, _, _, _, _, _⟩) (by rfl) (by rfl) ?_; go_big_quiet_step (fail); refine wpQuiet_nil ?_)
                        clear hslh hc6 hi1
                        refine plan_one (o := ⟨_, _, _, _, _, _⟩) (by rfl) (fun KK hKK => ?_)
                        go_wp2_with (refine wpList_s2b rfl _ rfl Tryd.underlying9 Tryd.underlying22 Tryd.underlying5 ⟨T.toArray⟩ rfl HTM.out ?_; intro c8 w8 ho8 hb8)
                        have hz8 : wz.drew.heap.size = wz.heap.size := rfl
                        rw [size_mk, hz8] at ho8
                        rw [hz8] at hb8
                        try rw [size_mk]
                        try rw [hz8]
                        have hb8' : Below wz.heap.size wz w8 := ⟨hb8.os, hb8.tape, hb8.output, hb8.size, hb8.block⟩
                        have hg8 := (hb8'.block _ hltz).trans hgz
                        clear hz8
                        refine hKK _ _ ⟨⟨w8, fun q hq _ => hb8'.block q hq⟩, rfl⟩ ?_
                        clear hKK
                        refine plan_read (o := ⟨_, _, _, _, _, _⟩) (by rfl) (by rfl) ?_
                        go_big_quiet_step (fail)
                        refine wpQuiet_nil ?_
                        refine plan_one (o := ⟨_, _, _, _, _, _⟩) (by rfl) (fun KK hKK => ?_)
                        go_wp2_with (refine wpList_store_all rfl _ _ _ rfl w.heap.size rfl _ rpZ (rpA v (some ⟨wz.heap.size, 0, none⟩) T.length c8 false) rfl hg8 (size_rp' _ _ _ _ _) rfl (rp_one _ _ _ _ _) ?_; intro w9 hg9 hgr9 hz9)
                        refine hKK _ _ ⟨⟨w9, fun q hq hne => (hgr9.block q (Nat.lt_of_lt_of_le hq hb8'.size) (fun e => hne (Option.some.inj e))).trans (hb8'.block q hq)⟩, rfl⟩ ?_
                        clear hKK
                        iterate 2 (refine plan_read (o := ⟨_, _, _, _, _, _⟩) (by rfl) (by rfl) ?_; go_big_quiet_step (fail); refine wpQuiet_nil ?_)
                        refine plan_fin ?_
                        go_wp2_with fail
                        refine bodyPost_ret (results_cell_tmp2 rfl _ _ w.heap.size _ _ _ _ rfl hg9 Tryd.underlying24 rfl (size_rp' _ _ _ _ _) _ _ rfl rfl) rfl ?_
                        rw [HNX.out]
                        exact took_end2 ho8 hltz HBW.out hb8' hgr9
                · rw [show ((1 : Nat) : Int) = 1 from rfl]
                  have HHK := Lib.hid (RHead_any HST.out N (Int.le_trans (by decide) HN0.out) HN1.out true wr)
                  have hGl := full_len HST.out N (Int.le_trans (by decide) HN0.out) HN1.out true
                  have hin := fun h => inner_no (v := v) (n := N) (b := l) (s := s') (k := true) h
                  have his := fun h => inner_short (v := v) (n := N) (b := l) (s := s') (k := true) h
                  have hiy := fun h => inner_yes (v := v) (n := N) (b := l) (s := s') (k := true) h
                  obtain ⟨G, hG⟩ : ∃ G, fullL v N true = G := ⟨_, rfl⟩
                  rw [hG] at HHK hGl hin his hiy
                  have HIN := Lib.hid hin
                  have HIS := Lib.hid his
                  have HIY := Lib.hid hiy
                  have hGl' : (G.length : Int) ≤ 106 := by omega
                  have hi1 := HI1.out
                  have c1 := HC1.out wr (hbx.block g6 hltW)
                  clear hG hin his hiy
                  go_wp2_with fail
                  refine HHK.out.mono ?_
                  rintro e wy ⟨rfl, hby⟩
                  have hbxy := hbx.trans (hby.mono hbx.size)
                  go_wp2_with fail
                  refine (begins_any G l wy).mono ?_
                  rintro e wz ⟨rfl, hbz⟩
                  have hbxz := hbxy.trans (hbz.mono hbxy.size)
                  clear hi1 c1 hby hbz hbxy HHK
                  by_cases hbg : begB G l = false
                  · have hnx := (hJ.out.trans (cont_none1 (HIN.out hbg)))
                    have HNX := Lib.hid hnx
                    rw [hbg]
                    clear hnx hbg HIS HIY
                    go_wp2_with fail
                    go_roundw
                    case rel => exact ⟨2, s', by omega, rfl, rfl, HNX.out, hbxz⟩
                    case measure => simp [intOf]
                  · have hbg' : begB G l = true := by simpa using hbg
                    rw [hbg']
                    by_cases hc1 : l.length < G.length
                    · have hnx := (hJ.out.trans (cont_none1 (HIS.out hbg' (.inl hc1))))
                      have HNX := Lib.hid hnx
                      have hc1' : (l.length : Int) < G.length := by omega
                      clear hnx hbg hbg' HIN HIY hc1
                      go_wp2_with fail
                      go_roundw
                      case rel => exact ⟨2, true, by omega, rfl, rfl, HNX.out, hbxz⟩
                      case measure => simp [intOf]
                    · have hc1' : (G.length : Int) ≤ l.length := by omega
                      have hc1d : decide (l.length < G.length) = false := decide_eq_false hc1
                      by_cases hc2 : (l.length : Int) - (G.length : Int) < N
                      · have hnx := (hJ.out.trans (cont_none1 (HIS.out hbg' (.inr hc2))))
                        have HNX := Lib.hid hnx
                        clear hnx hbg hbg' HIN HIY hc1
                        go_wp2_with fail
                        go_roundw
                        case rel => exact ⟨2, true, by omega, rfl, rfl, HNX.out, hbxz⟩
                        case measure => simp [intOf]
                      · have hnx := (hJ.out.trans (cont_some1 (HIY.out hbg' (fun h => by rcases h with h | h; exact hc1 h; exact hc2 h))))
                        obtain ⟨M, hM⟩ := Int.eq_ofNat_of_zero_le HN0.out
                        subst hM
                        rw [Int.toNat_natCast] at hnx
                        have hc2' : (M : Int) ≤ (l.length : Int) - (G.length : Int) := by omega
                        have hc2d : decide ((l.length : Int) - (G.length : Int) < (M : Int)) = false := decide_eq_false hc2
                        have hTl : ((l.drop G.length).take M).length = M := by rw [List.length_take, List.length_drop]; omega
                        have hslh := run_str_lh (P := Tryd.prog) Tryd.underlying9 l G.length (G.length + M) (by omega) (by omega) (kl := .i64) (kh := .i64) (I := (G.length : Int)) (J := (G.length : Int) + (M : Int)) rfl (by omega)
                        rw [Nat.add_sub_cancel_left] at hslh
                        obtain ⟨T, hT⟩ : ∃ T, (l.drop G.length).take M = T := ⟨_, rfl⟩
                        rw [hT] at hslh hnx hTl
                        have HNX := Lib.hid hnx
                        have HTL := Lib.hid hTl
                        have hTM : (⟨T.toArray⟩ : ByteArray).size ≤ 1073741824 := by rw [size_mk, hTl]; omega
                        have HTM := Lib.hid hTM
                        have HSLH := Lib.hid hslh
                        have HBW := Lib.hid (hbW.trans (hbxz.mono hbW.size))
                        have hgz := (hbxz.block _ (by omega)).trans HG.out
                        have hltz : w.heap.size < wz.heap.size := by have := hbxz.size; omega
                        have hc6 : ∀ q : KeepBut wz w.heap.size, q.at'.cell? ⟨g6, k, none⟩ = some (.int .i64 v) := fun q => HC1.out q.at' ((q.same g6 (by have := hbxz.size; omega) (by omega)).trans (hbxz.block g6 hltW))
                        have HC6 := Lib.hid hc6
                        clear hnx hbg hbg' HIN HIS HIY hc1 hc2 hT hslh hc6 hTl hTM
                        go_wp2_with fail
                        have hslh := HSLH.out
                        have hc6 := HC6.out
                        have hi1 := HI1.out
                        refine wp_region_plan (MPlan.reads [0, 1, 2, 3, 4, 5, 6, 7, 9, 10, 12] (.one 8 (.read 11 (.one 13 (MPlan.reads [14, 15] .fin))))) (fun x => ∃ q : KeepBut wz w.heap.size, x = q.at') (by kernel_rfl) (by kernel_rfl) (by kernel_rfl) (fun _ _ _ _ _ h => h) ⟨⟨wz.drew, fun _ _ _ => rfl⟩, rfl⟩ ?_
                        iterate 11 (refine plan_read (o := ⟨_, _, _, _, _, _⟩) (by rfl) (by rfl) ?_; go_big_quiet_step (fail); refine wpQuiet_nil ?_)
                        clear hslh hc6 hi1
                        refine plan_one (o := ⟨_, _, _, _, _, _⟩) (by rfl) (fun KK hKK => ?_)
                        go_wp2_with (refine wpList_s2b rfl _ rfl Tryd.underlying9 Tryd.underlying22 Tryd.underlying5 ⟨T.toArray⟩ rfl HTM.out ?_; intro c8 w8 ho8 hb8)
                        have hz8 : wz.drew.heap.size = wz.heap.size := rfl
                        rw [size_mk, hz8] at ho8
                        rw [hz8] at hb8
                        try rw [size_mk]
                        try rw [hz8]
                        have hb8' : Below wz.heap.size wz w8 := ⟨hb8.os, hb8.tape, hb8.output, hb8.size, hb8.block⟩
                        have hg8 := (hb8'.block _ hltz).trans hgz
                        clear hz8
                        refine hKK _ _ ⟨⟨w8, fun q hq _ => hb8'.block q hq⟩, rfl⟩ ?_
                        clear hKK
                        refine plan_read (o := ⟨_, _, _, _, _, _⟩) (by rfl) (by rfl) ?_
                        go_big_quiet_step (fail)
                        refine wpQuiet_nil ?_
                        refine plan_one (o := ⟨_, _, _, _, _, _⟩) (by rfl) (fun KK hKK => ?_)
                        go_wp2_with (refine wpList_store_all rfl _ _ _ rfl w.heap.size rfl _ rpZ (rpA v (some ⟨wz.heap.size, 0, none⟩) T.length c8 true) rfl hg8 (size_rp' _ _ _ _ _) rfl (rp_one _ _ _ _ _) ?_; intro w9 hg9 hgr9 hz9)
                        refine hKK _ _ ⟨⟨w9, fun q hq hne => (hgr9.block q (Nat.lt_of_lt_of_le hq hb8'.size) (fun e => hne (Option.some.inj e))).trans (hb8'.block q hq)⟩, rfl⟩ ?_
                        clear hKK
                        iterate 2 (refine plan_read (o := ⟨_, _, _, _, _, _⟩) (by rfl) (by rfl) ?_; go_big_quiet_step (fail); refine wpQuiet_nil ?_)
                        refine plan_fin ?_
                        go_wp2_with fail
                        refine bodyPost_ret (results_cell_tmp2 rfl _ _ w.heap.size _ _ _ _ rfl hg9 Tryd.underlying24 rfl (size_rp' _ _ _ _ _) _ _ rfl rfl) rfl ?_
                        rw [HNX.out]
                        exact took_end2 ho8 hltz HBW.out hb8' hgr9
                · rw [show ((2 : Nat) : Int) = 2 from rfl]
                  have HJ : Hid (loopD sts l false = loopD (sts.drop (k + 1)) l s') := by
                    show _ = _
                    rw [HVS.out]
                    exact hJ.out
                  clear hJ
                  go_wp2_with fail
                  go_roundw
                  case rel => exact ⟨k + 1, s', by omega, rfl, by go_num, HJ.out, hbx⟩
                  case measure => simp [intOf]; omega
          · have hE' : (E != 0) = true := by simpa using hE
            rw [if_pos hE] at HX
            clear hE
            go_wp2_with fail
            go_roundw
            case rel => exact ⟨k + 1, s, by omega, rfl, by go_num, HX.out, hb35⟩
            case measure => simp [intOf]; omega
    · obtain rfl : k = 11 := by omega
      have hbad : loopD sts l false = .bad (if s then 3 else 4) := by
        rw [hH.out, sts_end]
        rfl
      have hG := (hb.block _ (by omega)).trans HG.out
      have hB6 := hbW.trans (hb.mono hbW.size)
      have HBD := Lib.hid hbad
      clear hbad hH hk11
      cases s
      all_goals
        go_wp2_with (refine wpList_store_all rfl _ _ _ rfl w.heap.size rfl _ rpZ rpZ rfl hG (size_rp' _ _ _ _ _) rfl (rp_one _ _ _ _ _) ?_; intro w7 hg7 hgr7 hz7)
        refine bodyPost_ret (results_cell_tmp2 rfl _ _ w.heap.size _ _ _ _ rfl hg7 Tryd.underlying24 rfl (size_rp' _ _ _ _ _) _ _ rfl rfl) rfl ?_
        rw [HBD.out]
        exact HBAD.out w7 _ (hB6.grown hgr7 hB6.size (fun g hg => by obtain rfl := Option.some.inj hg; exact Nat.le_refl _))

end Go.Proofs.YtogkmlodcdgegaaDoor
