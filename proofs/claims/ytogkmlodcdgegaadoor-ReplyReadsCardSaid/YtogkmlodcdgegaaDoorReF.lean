/-
  Package reply: Take.
-/
import Derived.Test.YtogkmlodcdgegaaDoorReE
import Derived.Deep.CutRange
import Derived.Deep.CutBlock
import Derived.Test.YtogkmlodcdgegaaDoorLawA
namespace Go.Proofs.YtogkmlodcdgegaaDoor
open Go.RowKit

theorem results_cell_tmp2 {P : Program} {fn : Func} {p q r : Tmp} {ty : TypeId} (h : fn.results = #[.cell p ty, .tmp q, .tmp r]) (tmps : Array Value) (w : World) (g : Nat) (t : TypeId) (cs : Array Value) (fr : Nat × Nat) (d : TypeDesc)
    (hp : tmps.getD p undef = .pointer (some ⟨g, 0, none⟩)) (hg : w.heap[g]? = some (.cells cs t fr))
    (hu : P.underlying ty = some d) (hd : (match d with | .struct _ | .array _ _ => true | _ => false) = true) (hi : (P.info? ty).map (·.size) = some cs.size) (v u : Value) (hv : tmps.getD q undef = v) (hw : tmps.getD r undef = u) :
    (results fn tmps).run P w = .ok (.tuple #[.agg cs, v, u]) w := by
  have hp' : tmps[p]?.getD undef = .pointer (some ⟨g, 0, none⟩) := by simpa using hp
  have hv' : tmps[q]?.getD undef = v := by simpa using hv
  have hw' : tmps[r]?.getD undef = u := by simpa using hw
  simp [results, h, hp', hv', hw', asAddr, run_loadVar_row w g t ty cs fr d hg hu hd hi]

def rpZ : Array Value := rpA 0 none 0 0 false
theorem zero_rp : (Tryd.prog.info? 24).map (·.zero) = some (some (.agg rpZ)) := by kernel_rfl
theorem size_rp' (v : Int) (A : Option Addr) (n c : Nat) (b : Bool) : (Tryd.prog.info? 24).map (·.size) = some (rpA v A n c b).size := size_rp
theorem rp_one (v : Int) (A : Option Addr) (n c : Nat) (b : Bool) : ∀ x ∈ (rpA v A n c b).toList, x.oneCell' = true := by
  intro x hx
  simp [rpA] at hx
  rcases hx with rfl | rfl | rfl <;> rfl
theorem heap_setCell {w : World} {g i : Nat} {cs : Array Value} {t : TypeId} {fr : Nat × Nat} (v : Value) (h : w.heap[g]? = some (.cells cs t fr)) : (w.setCell ⟨g, i, none⟩ v).heap[g]? = some (.cells (cs.setIfInBounds i v) t fr) := by
  simp [World.setCell, Array.getElem?_modify, h]
theorem heap_setCell_ne {w : World} {g i k : Nat} (v : Value) (h : g ≠ k) : (w.setCell ⟨g, i, none⟩ v).heap[k]? = w.heap[k]? := by
  simp [World.setCell, Array.getElem?_modify, h]
theorem frozen_of {w : World} {g i : Nat} {cs : Array Value} {t : TypeId} (h : w.heap[g]? = some (.cells cs t (0, 0))) : w.frozen? ⟨g, i, none⟩ = false := by
  simp [World.frozen?, h]

set_option maxRecDepth 20000 in
set_option maxHeartbeats 4000000 in
theorem Sts_any (w : World) : Calls Tryd.prog 23 #[] w fun e w' => e = .returned (.agg stsA) ∧ Below w.heap.size w w' := by
  go_enter Tryd.func23, Tryd.ntmps23
  go_wp2_with fail
  exact bodyPost_ret (results_cell_row rfl _ _ w.heap.size _ _ _ _ rfl (heap_new _ _) Tryd.underlying37 rfl (by kernel_rfl)) rfl ⟨rfl, (Below.refl _ _).alloc (Nat.le_refl _) _⟩
theorem idx_sts0 (W : World) : (Instr.index 37 (.agg stsA) (.int .i64 0)).run Tryd.prog W = .ok (.int .i64 200) W := by kernel_rfl
theorem idx_sts1 (W : World) : (Instr.index 37 (.agg stsA) (.int .i64 1)).run Tryd.prog W = .ok (.int .i64 201) W := by kernel_rfl
theorem idx_sts2 (W : World) : (Instr.index 37 (.agg stsA) (.int .i64 2)).run Tryd.prog W = .ok (.int .i64 400) W := by kernel_rfl
theorem idx_sts3 (W : World) : (Instr.index 37 (.agg stsA) (.int .i64 3)).run Tryd.prog W = .ok (.int .i64 401) W := by kernel_rfl
theorem idx_sts4 (W : World) : (Instr.index 37 (.agg stsA) (.int .i64 4)).run Tryd.prog W = .ok (.int .i64 403) W := by kernel_rfl
theorem idx_sts5 (W : World) : (Instr.index 37 (.agg stsA) (.int .i64 5)).run Tryd.prog W = .ok (.int .i64 404) W := by kernel_rfl
theorem idx_sts6 (W : World) : (Instr.index 37 (.agg stsA) (.int .i64 6)).run Tryd.prog W = .ok (.int .i64 405) W := by kernel_rfl
theorem idx_sts7 (W : World) : (Instr.index 37 (.agg stsA) (.int .i64 7)).run Tryd.prog W = .ok (.int .i64 409) W := by kernel_rfl
theorem idx_sts8 (W : World) : (Instr.index 37 (.agg stsA) (.int .i64 8)).run Tryd.prog W = .ok (.int .i64 413) W := by kernel_rfl
theorem idx_sts9 (W : World) : (Instr.index 37 (.agg stsA) (.int .i64 9)).run Tryd.prog W = .ok (.int .i64 431) W := by kernel_rfl
theorem idx_sts10 (W : World) : (Instr.index 37 (.agg stsA) (.int .i64 10)).run Tryd.prog W = .ok (.int .i64 507) W := by kernel_rfl
theorem idx_sts (k : Nat) (hk : k < 11) (W : World) : (Instr.index 37 (.agg stsA) (.int .i64 (k : Int))).run Tryd.prog W = .ok (.int .i64 (stI k)) W := by
  have h : k = 0 ∨ k = 1 ∨ k = 2 ∨ k = 3 ∨ k = 4 ∨ k = 5 ∨ k = 6 ∨ k = 7 ∨ k = 8 ∨ k = 9 ∨ k = 10 := by omega
  rcases h with rfl | rfl | rfl | rfl | rfl | rfl | rfl | rfl | rfl | rfl | rfl
  · exact idx_sts0 W
  · exact idx_sts1 W
  · exact idx_sts2 W
  · exact idx_sts3 W
  · exact idx_sts4 W
  · exact idx_sts5 W
  · exact idx_sts6 W
  · exact idx_sts7 W
  · exact idx_sts8 W
  · exact idx_sts9 W
  · exact idx_sts10 W

theorem tails_of {s : List UInt8} {P Q : List UInt8 × Int} (hP : behindL s (tailL false) = P) (hQ : behindL s (tailL true) = Q) : tailsL s = if P.2 = 0 then (P.1, false, 0) else if Q.2 = 0 ∨ P.2 = 4 then (Q.1, true, Q.2) else (P.1, false, P.2) := by
  unfold tailsL
  rw [hP, hQ]
/-- What Take hands back. -/
def TookRep (w : World) (R : Rep) (e : Ending) (w' : World) : Prop := ∃ A' n' c', e = .returned (.tuple #[.agg (rpA R.v A' n' c' R.c), .int .i64 R.n, .int .i64 R.e]) ∧ Own w' w.heap.size 5 1 A' n' c' (R.l.map b8) ∧ Below w.heap.size w w'
theorem took_bad (w w' : World) (e : Int) (h : Below w.heap.size w w') : TookRep w (.bad e) (.returned (.tuple #[.agg (rpA 0 none 0 0 false), .int .i64 0, .int .i64 e])) w' := ⟨none, 0, 0, rfl, Own.nil_ _ _ _ _, h⟩

theorem took_end {w wc w8 w9 : World} {T : List UInt8} {M c8 n g7 : Nat} {v : Int} {b : Bool} {u : Value} (ho8 : Own w8 wc.heap.size 5 1 (some ⟨wc.heap.size, 0, none⟩) M c8 ((T.take M).map b8)) (hltx : g7 < wc.heap.size) (hlt1 : w.heap.size < g7)
    (hBx : Below w.heap.size w wc) (hb8 : Below wc.heap.size wc w8) (hgr9 : (w8.setCell ⟨g7, 1, none⟩ u).grownBy w9 (some w.heap.size)) :
    TookRep w ⟨v, T.take (M : Int).toNat, b, (n : Int) - (T.length : Int) + (M : Int), 0⟩ (.returned (.tuple #[.agg (rpA v (some ⟨wc.heap.size, 0, none⟩) M c8 b), .int .i64 ((n : Int) - (T.length : Int) + (M : Int)), .int .i64 0])) w9 := by
  have hbk : blk (some (⟨wc.heap.size, 0, none⟩ : Addr)) = some wc.heap.size := rfl
  refine ⟨_, _, _, rfl, ?_, ?_⟩
  · rw [Int.toNat_natCast]
    have h1 : Own (w8.setCell ⟨g7, 1, none⟩ u) wc.heap.size 5 1 (some ⟨wc.heap.size, 0, none⟩) M c8 ((T.take M).map b8) := ho8.keep fun k hk _ _ => by
      rw [hbk] at hk
      exact heap_setCell_ne _ (by have := Option.some.inj hk; omega)
    exact (h1.grown hgr9 (fun k hk e => by
      rw [hbk] at hk
      have h2 := Option.some.inj hk
      have h3 := Option.some.inj e
      omega)).mono hBx.size
  · have h1 := hBx.trans (hb8.mono hBx.size)
    have h2 : Below w.heap.size w (w8.setCell ⟨g7, 1, none⟩ u) := h1.setCell (Nat.le_of_lt hlt1) _
    exact h2.grown hgr9 h2.size (fun g hg => by obtain rfl := Option.some.inj hg; exact Nat.le_refl _)

set_option maxRecDepth 20000 in
set_option maxHeartbeats 16000000 in
theorem Take_any {w : World} {A : Option Addr} {n c : Nat} {l : List UInt8} (h : Rd w 1 A n c (l.map b8)) (hn : n ≤ 1073741824) (hrun : ∀ v, isSt v → Lib.hasPrefix l (headL v) = true → runL (l.drop (headL v).length) ≤ 4096) (ht : Tab w) :
    Calls Tryd.prog 15 #[.slice A n c] w (TookRep w (takeP l)) := by
  have HT := Lib.hid (fun W (hb : Below w.heap.size w W) => ht.below hb)
  have hln := h.lenb
  have HLN := Lib.hid hln
  have HRUN := Lib.hid hrun
  have HV := Lib.hid h
  have HBAD := Lib.hid (took_bad w)
  have hstr := fun W (hb : Below w.heap.size w W) => str_rd (h.below hb)
  have HSTR := Lib.hid hstr
  clear h hln hrun hstr ht
  go_enter Tryd.func15, Tryd.ntmps15
  go_wp2_with (first
    | (have := hcA.out; refine wpList_alloc_zero rfl _ rfl rpZ zero_rp ?_; intro w2 hg2 hb2 hz2; have hlt2 : w1.heap.size < w2.heap.size := (by omega); clear hz2)
    | (refine wpList_alloc_zero rfl _ rfl rpZ zero_rp ?_; intro w1 hg1 hb1 hz1; have hlt1 : w.heap.size < w1.heap.size := (by omega); clear hz1; have hs1 := HSTR.out _ hb1; have hcA := Lib.hid True.intro))
  refine (Sts_any _).mono ?_
  rintro e w3 ⟨rfl, hb3⟩
  have hB3 : Below w.heap.size w w3 := (hb1.trans (hb2.mono (Nat.le_of_lt hlt1))).trans (hb3.mono (by omega))
  have hG2 : w3.heap[w.heap.size]? = some (.cells rpZ 24 (0, 0)) := ((hb3.block _ (by omega)).trans (hb2.block _ hlt1)).trans hg1
  have hG7 : w3.heap[w1.heap.size]? = some (.cells rpZ 24 (0, 0)) := (hb3.block _ hlt2).trans hg2
  have hlt3 : w1.heap.size < w3.heap.size := by have := hb3.size; omega
  obtain ⟨g7, hg7⟩ : ∃ g7, w1.heap.size = g7 := ⟨_, rfl⟩
  rw [hg7] at hG7 hlt3 hlt1 ⊢
  have HG2 := Lib.hid hG2
  have HG7 := Lib.hid hG7
  clear hg1 hg2 hb1 hb2 hb3 hs1 hcA hG2 hG7 hg7 hlt2
  go_wp2_with fail
  go_loopw [5, 6, 19] (fun s e i wr => ∃ (k : Nat) (E : Int), k ≤ 11 ∧ s = .string ⟨l.toArray⟩ ∧ e = .int .i64 E ∧ i = .int .i64 k ∧ Hid (E ≠ 0) ∧ Hid (scanL sts l 4 = scanL (sts.drop k) l E) ∧ Below w3.heap.size w3 wr) (fun _ _ i _ => 11 - (intOf i).toNat)
  case atStart => exact ⟨0, 4, by omega, rfl, rfl, rfl, (show (4 : Int) ≠ 0 by decide), (show _ = _ from rfl), Below.refl _ _⟩
  case round =>
    obtain ⟨k, E, hk, rfl, rfl, rfl, hE, hH, hb⟩ := hrel
    by_cases hk11 : k < 11
    · have hix := idx_sts k hk11
      have hst : isSt (stI k) := (stI_at ⟨k, hk11⟩).2
      have hkd := sts_drop k hk11
      rw [hkd] at hH
      have hk' : (k : Int) < 11 := by omega
      obtain ⟨v, hv⟩ : ∃ v, stI k = v := ⟨_, rfl⟩
      rw [hv] at hix hst hH
      have hB := hB3.trans (hb.mono hB3.size)
      have HH := Lib.hid (head_any hst wr (HT.out _ hB))
      have HST := Lib.hid hst
      clear hk11 hkd hv hst
      go_wp2_with fail
      refine HH.out.mono ?_
      rintro e w4 ⟨rfl, hb4⟩
      have hb34 := hb.trans (hb4.mono hb.size)
      have hB4 := hB3.trans (hb34.mono hB3.size)
      have HBH := Lib.hid (behind_any l (headL v) w4)
      clear hb4 HH hB
      rcases behind_cases l (headL v) with ⟨hc, hpre⟩ | hc | hc
      · obtain ⟨S, hS⟩ : ∃ S, l.drop (headL v).length = S := ⟨_, rfl⟩
        have hrn := HRUN.out v HST.out hpre
        have hscan : scanL sts l 4 = (v, S, 0) := by
          rw [hH.out, scanL, if_pos (by rw [hc]), hc, hS]
        have htk : takeP l = afterL v n S := by
          unfold takeP
          rw [hscan, if_neg (by simp), HLN.out]
        rw [hc, hS] at HBH
        rw [hS] at hrn
        have hSl : S.length ≤ n := by rw [← hS, List.length_drop, HLN.out]; omega
        dsimp only at HBH
        have HTK := Lib.hid htk
        have hG7 := (hb34.block _ hlt3).trans HG7.out
        have c70 : w4.cell? ⟨g7, 0, none⟩ = some (.int .i64 0) := cell_of hG7 rfl
        have f70 : w4.frozen? ⟨g7, 0, none⟩ = false := frozen_of hG7
        clear hc hpre hS hscan htk
        go_wp2_with fail
        refine HBH.out.mono ?_
        rintro e w5 ⟨rfl, rfl⟩
        go_wp2_with fail
        obtain ⟨w5, hw5⟩ : ∃ w5, w4.setCell ⟨g7, 0, none⟩ (.int .i64 v) = w5 := ⟨_, rfl⟩
        rw [hw5]
        have hG75 : w5.heap[g7]? = some (.cells (rpA v none 0 0 false) 24 (0, 0)) := by rw [← hw5, heap_setCell _ hG7]; rfl
        have hG25 : w5.heap[w.heap.size]? = some (.cells rpZ 24 (0, 0)) := by
          rw [← hw5, heap_setCell_ne _ (by omega)]
          exact (hb34.block _ (by omega)).trans HG2.out
        have hB5 : Below w.heap.size w w5 := by rw [← hw5]; exact hB4.setCell (Nat.le_of_lt hlt1) _
        have hlt5 : g7 < w5.heap.size := by rw [← hw5]; have := hb34.size; simp; omega
        have HN := Lib.hid (number_any S hrn (by omega) w5)
        clear hw5 hG7 c70 f70 hb34 hB4 hH hb hB3 hlt3
        obtain ⟨X, hX⟩ : ∃ X, numberL S = X := ⟨_, rfl⟩
        have hfst := number_fst (s := S)
        rw [hX] at HN hfst
        obtain ⟨N, S2, E2⟩ := X
        dsimp only at HN hfst
        have HX := Lib.hid hX
        by_cases hE2 : E2 = 0
        · subst hE2
          obtain ⟨_, hS2, hN0, hN1⟩ := hfst rfl
          have htk2 : takeP l = if (tailsL S2).2.2 ≠ 0 then .bad (tailsL S2).2.2 else if ((tailsL S2).1.length : Int) < N then .bad 3 else ⟨v, (tailsL S2).1.take N.toNat, (tailsL S2).2.1, (n : Int) - ((tailsL S2).1.length : Int) + N, 0⟩ := by
            rw [HTK.out]
            unfold afterL
            rw [HX.out]
            simp only [ne_eq, not_true_eq_false, if_false]
          have HTK2 := Lib.hid htk2
          have hS2l : S2.length ≤ n := by rw [hS2, List.length_drop]; omega
          clear hfst hX htk2 hS2
          go_wp2_with fail
          refine HN.out.mono ?_
          rintro e w6 ⟨rfl, hb6⟩
          have hG76 := (hb6.block _ hlt5).trans hG75
          have hG26 := (hb6.block _ (by omega)).trans hG25
          have hB6 := hB5.trans (hb6.mono hB5.size)
          have hlt6 : g7 < w6.heap.size := by have := hb6.size; omega
          have HG76 := Lib.hid hG76
          have HG26 := Lib.hid hG26
          clear hb6 hG75 hG25 hB5 hlt5 hG76 hG26
          obtain ⟨TF, hTF⟩ : ∃ TF, tailL false = TF := ⟨_, rfl⟩
          obtain ⟨TT, hTT⟩ : ∃ TT, tailL true = TT := ⟨_, rfl⟩
          have HP := Lib.hid (behind_any S2 (tailL false) w6)
          have HQ := Lib.hid (behind_any S2 (tailL true) w6)
          have HTS := Lib.hid (fun P Q => tails_of (s := S2) (P := P) (Q := Q))
          have H1 := Lib.hid (tail_any false w6)
          have H2 := Lib.hid (tail_any true w6)
          rw [hTF] at HP HTS H1
          rw [hTT] at HQ HTS H2
          obtain ⟨P, hP⟩ : ∃ P, behindL S2 TF = P := ⟨_, rfl⟩
          rw [hP] at HP
          have HHP := Lib.hid hP
          clear hTF hTT hP
          obtain ⟨P1, P2⟩ := P
          dsimp only at HP
          go_wp2_with fail
          refine H1.out.mono ?_
          rintro e w7 ⟨rfl, rfl⟩
          go_wp2_with fail
          refine HP.out.mono ?_
          rintro e w7 ⟨rfl, rfl⟩
          go_upto_if 60 with fail
          go_cut [6, 13] from 61 to 75 (fun e r wx => ∃ (T : List UInt8) (b : Bool) (E : Int), r = .string ⟨T.toArray⟩ ∧ e = .int .i64 E ∧ Hid (tailsL S2 = (T, b, E)) ∧ T.length ≤ n ∧ Hid (wx.heap[g7]? = some (.cells (rpA v none 0 0 b) 24 (0, 0))) ∧ Hid (wx.heap[w.heap.size]? = some (.cells rpZ 24 (0, 0))) ∧ g7 < wx.heap.size ∧ Below w.heap.size w wx)
          case first =>
            have c72 : w6.cell? ⟨g7, 2, none⟩ = some (.bool false) := cell_of HG76.out rfl
            have f72 : w6.frozen? ⟨g7, 2, none⟩ = false := frozen_of HG76.out
            have hset : (w6.setCell ⟨g7, 2, none⟩ (.bool true)).heap[g7]? = some (.cells (rpA v none 0 0 true) 24 (0, 0)) := by rw [heap_setCell _ HG76.out]; rfl
            have hset2 : (w6.setCell ⟨g7, 2, none⟩ (.bool true)).heap[w.heap.size]? = some (.cells rpZ 24 (0, 0)) := by rw [heap_setCell_ne _ (by omega)]; exact HG26.out
            have hltS : g7 < (w6.setCell ⟨g7, 2, none⟩ (.bool true)).heap.size := by simpa using hlt6
            have hBS : Below w.heap.size w (w6.setCell ⟨g7, 2, none⟩ (.bool true)) := hB6.setCell (Nat.le_of_lt hlt1) _
            have HSET := Lib.hid hset
            have HSET2 := Lib.hid hset2
            have HLS := Lib.hid hltS
            clear hset hset2 hltS
            have hdl : ∀ j, (S2.drop j).length ≤ n := fun j => by rw [List.length_drop]; omega
            have HDL := Lib.hid hdl
            clear hdl
            rcases behind_cases S2 TF with ⟨hc, hpre⟩ | hc | hc
            · obtain ⟨Q, hQ⟩ : ∃ Q, behindL S2 TT = Q := ⟨_, rfl⟩
              have htl := HTS.out _ _ hc hQ
              rw [if_pos rfl] at htl
              dsimp only at htl
              have HTL := Lib.hid htl
              have hq := HHP.out
              rw [hc] at hq
              obtain ⟨rfl, rfl⟩ := Prod.mk.inj hq
              clear hc hpre hQ htl HQ HTS hq HP HHP
              go_wp2_with fail
              go_meet
              exact ⟨_, _, _, rfl, rfl, HTL.out, HDL.out _, HG76.out, HG26.out, hlt6, hB6⟩
            · rcases behind_cases S2 TT with ⟨hd, hpre⟩ | hd | hd
              · have htl := HTS.out _ _ hc hd
                rw [if_neg (by decide), if_pos (.inl rfl)] at htl
                have hq := HHP.out
                rw [hc] at hq
                obtain ⟨rfl, rfl⟩ := Prod.mk.inj hq
                rw [hd] at HQ
                dsimp only at HQ htl
                have HTL := Lib.hid htl
                clear hc hd htl HTS hq HP HHP
                go_wp2_with fail
                refine H2.out.mono ?_
                rintro e w7 ⟨rfl, rfl⟩
                go_wp2_with fail
                refine HQ.out.mono ?_
                rintro e w7 ⟨rfl, rfl⟩
                go_wp2_with fail
                go_meet
                exact ⟨_, _, _, rfl, rfl, HTL.out, HDL.out _, HSET.out, HSET2.out, HLS.out, hBS⟩
              · have htl := HTS.out _ _ hc hd
                rw [if_neg (by decide), if_neg (by decide)] at htl
                have hq := HHP.out
                rw [hc] at hq
                obtain ⟨rfl, rfl⟩ := Prod.mk.inj hq
                rw [hd] at HQ
                dsimp only at HQ htl
                have HTL := Lib.hid htl
                clear hc hd htl HTS hq HP HHP
                go_wp2_with fail
                refine H2.out.mono ?_
                rintro e w7 ⟨rfl, rfl⟩
                go_wp2_with fail
                refine HQ.out.mono ?_
                rintro e w7 ⟨rfl, rfl⟩
                go_wp2_with fail
                go_meet
                exact ⟨_, _, _, rfl, rfl, HTL.out, Nat.zero_le _, HG76.out, HG26.out, hlt6, hB6⟩
              · have htl := HTS.out _ _ hc hd
                rw [if_neg (by decide), if_neg (by decide)] at htl
                have hq := HHP.out
                rw [hc] at hq
                obtain ⟨rfl, rfl⟩ := Prod.mk.inj hq
                rw [hd] at HQ
                dsimp only at HQ htl
                have HTL := Lib.hid htl
                clear hc hd htl HTS hq HP HHP
                go_wp2_with fail
                refine H2.out.mono ?_
                rintro e w7 ⟨rfl, rfl⟩
                go_wp2_with fail
                refine HQ.out.mono ?_
                rintro e w7 ⟨rfl, rfl⟩
                go_wp2_with fail
                go_meet
                exact ⟨_, _, _, rfl, rfl, HTL.out, Nat.zero_le _, HG76.out, HG26.out, hlt6, hB6⟩
            · rcases behind_cases S2 TT with ⟨hd, hpre⟩ | hd | hd
              · have htl := HTS.out _ _ hc hd
                rw [if_neg (by decide), if_pos (.inr rfl)] at htl
                have hq := HHP.out
                rw [hc] at hq
                obtain ⟨rfl, rfl⟩ := Prod.mk.inj hq
                rw [hd] at HQ
                dsimp only at HQ htl
                have HTL := Lib.hid htl
                clear hc hd htl HTS hq HP HHP
                go_wp2_with fail
                refine H2.out.mono ?_
                rintro e w7 ⟨rfl, rfl⟩
                go_wp2_with fail
                refine HQ.out.mono ?_
                rintro e w7 ⟨rfl, rfl⟩
                go_wp2_with fail
                go_meet
                exact ⟨_, _, _, rfl, rfl, HTL.out, HDL.out _, HSET.out, HSET2.out, HLS.out, hBS⟩
              · have htl := HTS.out _ _ hc hd
                rw [if_neg (by decide), if_pos (.inr rfl)] at htl
                have hq := HHP.out
                rw [hc] at hq
                obtain ⟨rfl, rfl⟩ := Prod.mk.inj hq
                rw [hd] at HQ
                dsimp only at HQ htl
                have HTL := Lib.hid htl
                clear hc hd htl HTS hq HP HHP
                go_wp2_with fail
                refine H2.out.mono ?_
                rintro e w7 ⟨rfl, rfl⟩
                go_wp2_with fail
                refine HQ.out.mono ?_
                rintro e w7 ⟨rfl, rfl⟩
                go_wp2_with fail
                go_meet
                exact ⟨_, _, _, rfl, rfl, HTL.out, Nat.zero_le _, HSET.out, HSET2.out, HLS.out, hBS⟩
              · have htl := HTS.out _ _ hc hd
                rw [if_neg (by decide), if_pos (.inr rfl)] at htl
                have hq := HHP.out
                rw [hc] at hq
                obtain ⟨rfl, rfl⟩ := Prod.mk.inj hq
                rw [hd] at HQ
                dsimp only at HQ htl
                have HTL := Lib.hid htl
                clear hc hd htl HTS hq HP HHP
                go_wp2_with fail
                refine H2.out.mono ?_
                rintro e w7 ⟨rfl, rfl⟩
                go_wp2_with fail
                refine HQ.out.mono ?_
                rintro e w7 ⟨rfl, rfl⟩
                go_wp2_with fail
                go_meet
                exact ⟨_, _, _, rfl, rfl, HTL.out, Nat.zero_le _, HSET.out, HSET2.out, HLS.out, hBS⟩
          case rest =>
            obtain ⟨T, b, E3, rfl, rfl, hTL, hTn, hG7x, hG2x, hltx, hBx⟩ := hcut
            have hfin := HTK2.out
            rw [hTL.out] at hfin
            dsimp only at hfin
            by_cases hE3 : E3 = 0
            · subst hE3
              rw [if_neg (by decide)] at hfin
              obtain ⟨M, rfl⟩ := Int.eq_ofNat_of_zero_le hN0
              by_cases hlt : (T.length : Int) < (M : Int)
              · rw [if_pos hlt] at hfin
                have HF := Lib.hid hfin
                have hG := hG2x.out
                clear hfin hTL hN0 hN1
                go_wp2_with (refine wpList_store_all rfl _ _ _ rfl w.heap.size rfl _ rpZ rpZ rfl hG (size_rp' _ _ _ _ _) rfl (rp_one _ _ _ _ _) ?_; intro w7 hg7 hgr7 hz7)
                refine bodyPost_ret (results_cell_tmp2 rfl _ _ w.heap.size _ _ _ _ rfl hg7 Tryd.underlying24 rfl (size_rp' _ _ _ _ _) _ _ rfl rfl) rfl ?_
                rw [HF.out]
                exact HBAD.out w7 3 (hBx.grown hgr7 hBx.size (fun g hg => by obtain rfl := Option.some.inj hg; exact Nat.le_refl _))
              · rw [if_neg hlt] at hfin
                have hMT : M ≤ T.length := by omega
                have hlt' : (M : Int) ≤ T.length := by omega
                have hlt'' : decide ((T.length : Int) < (M : Int)) = false := decide_eq_false hlt
                have hsh := run_str_h (P := Tryd.prog) Tryd.underlying9 T M hMT (kh := .i64)
                have hszT : (⟨(T.take M).toArray⟩ : ByteArray).size = M := by rw [size_mk, List.length_take]; omega
                have HF := Lib.hid hfin
                have HSZ := Lib.hid hszT
                clear hfin hTL hN0 hN1 hlt hszT
                go_wp2_with (first
                  | (refine wpList_s2b rfl _ rfl Tryd.underlying9 Tryd.underlying22 Tryd.underlying5 ⟨(T.take M).toArray⟩ rfl (by rw [HSZ.out]; omega) ?_; intro c8 w8 ho8 hb8; rw [HSZ.out] at ho8 ⊢; have hG78 := (hb8.block _ hltx).trans hG7x.out; have hG28 := (hb8.block _ (by omega)).trans hG2x.out; have c71 : w8.cell? ⟨g7, 1, none⟩ = some (.slice none 0 0) := cell_of hG78 rfl; have f71 : w8.frozen? ⟨g7, 1, none⟩ = false := frozen_of hG78; have hld : (w8.setCell ⟨g7, 1, none⟩ (.slice (some ⟨wc.heap.size, 0, none⟩) M c8)).heap[g7]? = some (.cells (rpA v (some ⟨wc.heap.size, 0, none⟩) M c8 b) 24 (0, 0)) := (heap_setCell _ hG78); have hsd : (w8.setCell ⟨g7, 1, none⟩ (.slice (some ⟨wc.heap.size, 0, none⟩) M c8)).heap[w.heap.size]? = some (.cells rpZ 24 (0, 0)) := ((heap_setCell_ne _ (by omega)).trans hG28); have HLD := Lib.hid hld; have HSD := Lib.hid hsd; clear hG28 hG78 hld hsd)
                  | (refine wpList_load_all rfl _ _ rfl g7 rfl _ _ _ _ HLD.out Tryd.underlying24 rfl (size_rp' _ _ _ _ _) ?_)
                  | (refine wpList_store_all rfl _ _ _ rfl w.heap.size rfl _ rpZ _ rfl HSD.out (size_rp' _ _ _ _ _) rfl (rp_one _ _ _ _ _) ?_; intro w9 hg9 hgr9 hz9))
                refine bodyPost_ret (results_cell_tmp2 rfl _ _ w.heap.size _ _ _ _ rfl hg9 Tryd.underlying24 rfl (size_rp' _ _ _ _ _) _ _ rfl rfl) rfl ?_
                rw [HF.out]
                exact took_end ho8 hltx hlt1 hBx hb8 hgr9
            · have hE3' : (E3 != 0) = true := by simpa using hE3
              rw [if_pos hE3] at hfin
              have HF := Lib.hid hfin
              have hG := hG2x.out
              clear hfin hTL hE3
              go_wp2_with (refine wpList_store_all rfl _ _ _ rfl w.heap.size rfl _ rpZ rpZ rfl hG (size_rp' _ _ _ _ _) rfl (rp_one _ _ _ _ _) ?_; intro w7 hg7 hgr7 hz7)
              refine bodyPost_ret (results_cell_tmp2 rfl _ _ w.heap.size _ _ _ _ rfl hg7 Tryd.underlying24 rfl (size_rp' _ _ _ _ _) _ _ rfl rfl) rfl ?_
              rw [HF.out]
              exact HBAD.out w7 E3 (hBx.grown hgr7 hBx.size (fun g hg => by obtain rfl := Option.some.inj hg; exact Nat.le_refl _))
        · have hE2' : (E2 != 0) = true := by simpa using hE2
          have hbad : takeP l = .bad E2 := by
            rw [HTK.out]
            unfold afterL
            rw [HX.out, if_pos hE2]
          have HBD := Lib.hid hbad
          clear hfst hX hbad hE2
          go_wp2_with fail
          refine HN.out.mono ?_
          rintro e w6 ⟨rfl, hb6⟩
          have hG26 := (hb6.block _ (by omega)).trans hG25
          have hB6 := hB5.trans (hb6.mono hB5.size)
          go_wp2_with (refine wpList_store_all rfl _ _ _ rfl w.heap.size rfl _ rpZ rpZ rfl hG26 (size_rp' _ _ _ _ _) rfl (rp_one _ _ _ _ _) ?_; intro w7 hg7 hgr7 hz7)
          refine bodyPost_ret (results_cell_tmp2 rfl _ _ w.heap.size _ _ _ _ rfl hg7 Tryd.underlying24 rfl (size_rp' _ _ _ _ _) _ _ rfl rfl) rfl ?_
          rw [HBD.out]
          exact HBAD.out w7 E2 (hB6.grown hgr7 hB6.size (fun g hg => by obtain rfl := Option.some.inj hg; exact Nat.le_refl _))
      · rw [hc] at HBH
        dsimp only at HBH
        have hscan : scanL sts l 4 = scanL (sts.drop (k + 1)) l 3 := by
          rw [hH.out, scanL, if_neg (by rw [hc]; decide), if_pos (by rw [hc])]
        have HS := Lib.hid hscan
        clear hc hscan hH
        go_wp2_with fail
        refine HBH.out.mono ?_
        rintro e w5 ⟨rfl, rfl⟩
        go_wp2_with fail
        go_roundw
        case rel => exact ⟨k + 1, 3, by omega, rfl, rfl, by go_num, (show (3 : Int) ≠ 0 by decide), HS.out, hb34⟩
        case measure => simp [intOf]; omega
      · rw [hc] at HBH
        dsimp only at HBH
        have hscan : scanL sts l 4 = scanL (sts.drop (k + 1)) l E := by
          rw [hH.out, scanL, if_neg (by rw [hc]; decide), if_neg (by rw [hc]; decide)]
        have HS := Lib.hid hscan
        clear hc hscan hH
        go_wp2_with fail
        refine HBH.out.mono ?_
        rintro e w5 ⟨rfl, rfl⟩
        go_wp2_with fail
        go_roundw
        case rel => exact ⟨k + 1, E, by omega, rfl, rfl, by go_num, hE.out, HS.out, hb34⟩
        case measure => simp [intOf]; omega
    · obtain rfl : k = 11 := by omega
      have hbad : takeP l = .bad E := by
        unfold takeP
        have h1 := hH.out
        rw [sts_end] at h1
        rw [h1]
        exact if_pos hE.out
      have HBD := Lib.hid hbad
      have hE' : (E != 0) = true := by simpa using hE.out
      have hG26 := (hb.block _ (by omega)).trans HG2.out
      have hB6 := hB3.trans (hb.mono hB3.size)
      clear hbad hH hk11
      go_wp2_with (refine wpList_store_all rfl _ _ _ rfl w.heap.size rfl _ rpZ rpZ rfl hG26 (size_rp' _ _ _ _ _) rfl (rp_one _ _ _ _ _) ?_; intro w7 hg7 hgr7 hz7)
      refine bodyPost_ret (results_cell_tmp2 rfl _ _ w.heap.size _ _ _ _ rfl hg7 Tryd.underlying24 rfl (size_rp' _ _ _ _ _) _ _ rfl rfl) rfl ?_
      rw [HBD.out]
      exact HBAD.out w7 E (hB6.grown hgr7 hB6.size (fun g hg => by obtain rfl := Option.some.inj hg; exact Nat.le_refl _))

end Go.Proofs.YtogkmlodcdgegaaDoor
