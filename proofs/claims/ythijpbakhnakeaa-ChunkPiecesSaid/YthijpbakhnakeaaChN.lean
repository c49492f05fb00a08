/-
  The laws of layer 23: feeds.
-/
import Derived.Test.YthijpbakhnakeaaChM
import Derived.BigQuiet
import Derived.Test.YthijpbakhnakeaaQuiet
import Derived.Deep.CutRange
namespace Go.Proofs.Ythijpbakhnakeaa
open Go.RowKit

theorem Rows2.row {w : World} {A : Option Addr} {n c k : Nat} {ll : List Row} {r : Row} (h : Rows2 w A n c ll) (hx : ll[k]? = some r) : w.cell? (at_ A k) = some (.slice r.A r.n r.c) ∧ Rd w 1 r.A r.n r.c (r.l.map b8) :=
  ⟨h.rd.cell k _ (by rw [List.getElem?_map, hx]; rfl), h.each r (List.mem_of_getElem? hx)⟩
theorem Own.but {S : Nat → Prop} {w w' : World} {base size n c : Nat} {e : TypeId} {A : Option Addr} {xs : List Value} (h : Own w base e size A n c xs) (hb : But S w w') (hS : ∀ k, blk A = some k → ¬ S k) : Own w' base e size A n c xs :=
  h.keep fun g hg _ hlt => hb.block g hlt (hS g hg)
theorem Body.grown {w w' : World} {base g : Nat} {A : Option Addr} {n c : Nat} {s : St} {row : Option Nat} (h : Body w base g A n c s) (hg : w.grownBy w' row) (h1 : row ≠ some g) (h2 : ∀ k, blk A = some k → row ≠ some k) : Body w' base g A n c s :=
  h.keep (hg.block g h.lt (fun e => h1 e.symm)) fun k hk => hg.block k (h.row.lt k hk).2 (fun e => h2 k hk e.symm)
/-- The front of a twin. -/
theorem twin_front {w : World} {A : Option Addr} {n : Nat} {l : List UInt8} (h : Rd w 1 A (n + 3) (n + 3) ((l ++ e5).map b8)) (hl : l.length = n) : Rd w 1 A n (n + 3) (l.map b8) :=
  ⟨by simpa using hl, by omega, h.max, h.nil, fun j u hu => h.cell j u (by
    rw [List.map_append, List.getElem?_append_left (List.getElem?_eq_some_iff.1 hu).1]
    exact hu)⟩
theorem told_cells {w : World} {g : Nat} {v0 v1 v2 : Value} {t : TypeId} (h : w.heap[g]? = some (.cells #[v0, v1, v2] t (0, 0))) :
    w.cell? ⟨g, 0, none⟩ = some v0 ∧ w.cell? ⟨g, 1, none⟩ = some v1 ∧ w.cell? ⟨g, 2, none⟩ = some v2 ∧ w.frozen? ⟨g, 0, none⟩ = false ∧ w.frozen? ⟨g, 1, none⟩ = false ∧ w.frozen? ⟨g, 2, none⟩ = false :=
  ⟨cell_of h rfl, cell_of h rfl, cell_of h rfl, frozen_of h, frozen_of h, frozen_of h⟩

/-- How Feed's answer and the document's hang together: N bytes taken, the error E, the state, what the document tells. -/
theorem feed_told {s0 s : St} {all l : List UInt8} {na : Nat} (hF : feedP s0 all = (na, s)) (hna : all.length = na) (hb : s.bd = 0) :
    ∃ k : Nat, feedN s l = (k : Int) ∧ k ≤ l.length ∧
      ((∃ E : Int, E ≠ 0 ∧ (feedP s l).2.bd = E ∧ k = 0 ∧ (finP (feedP s l).2).bd = E ∧ ((finP (feedP s l).2).nx == 9) = false ∧ (finP (feedP s l).2).got = [] ∧ toldP (feedP s0 (all ++ l)) = (0, [], E)) ∨
       (feedP s l).2.bd = 0 ∧ (finP (feedP s l).2).bd = 0 ∧ feedP s0 ((all ++ l).take (na + k)) = (na + k, finP (feedP s l).2) ∧
        ((((finP (feedP s l).2).nx == 9) = true ∧ toldP (feedP s0 (all ++ l)) = (((na + k : Nat) : Int), (finP (feedP s l).2).got, 0)) ∨
         (((finP (feedP s l).2).nx == 9) = false ∧ k = l.length ∧ toldP (feedP s0 (all ++ l)) = (-1, (finP (feedP s l).2).got, 0)))) := by
  have ha : feedP s0 (all ++ l) = ((feedP s l).1 + na, (feedP s l).2) := by
    have := feedP_append (s' := s) all s0 l (by rw [hF, hna])
    rw [hna] at this
    exact this
  have ht := feedP_take (all ++ l) s0
  rw [ha] at ht
  have hle := feedP_le l s
  have hall := feedP_all l s
  have herr := feedP_err l s (fun h => absurd hb h)
  obtain ⟨k', s', hks⟩ : ∃ k' s', feedP s l = (k', s') := ⟨_, _, rfl⟩
  rw [ha]
  unfold feedN
  rw [hks] at ht hle hall herr ⊢
  dsimp only at ht hle hall herr ⊢
  by_cases hbd : s'.bd = 0
  · rw [if_pos hbd]
    have hfin : finP s' = s' := if_pos hbd
    rw [hfin]
    refine ⟨k', rfl, hle, .inr ⟨hbd, hbd, ?_, ?_⟩⟩
    · rw [Nat.add_comm na k']
      exact ht
    · by_cases h9 : s'.nx = 9
      · refine .inl ⟨by simpa using h9, ?_⟩
        unfold toldP
        rw [if_pos hbd, if_pos h9, Nat.add_comm na k']
      · refine .inr ⟨by simpa using h9, hall h9 hbd, ?_⟩
        unfold toldP
        rw [if_pos hbd, if_neg h9]
  · rw [if_neg hbd]
    have hfin : finP s' = { s' with got := [] } := if_neg hbd
    rw [hfin]
    refine ⟨0, rfl, Nat.zero_le _, .inl ⟨s'.bd, hbd, rfl, rfl, rfl, by simpa using herr hbd, rfl, ?_⟩⟩
    unfold toldP
    rw [if_neg hbd]
theorem fin_ok {s : St} (h : Ok s) : Ok (finP s) := by
  unfold finP
  split
  · exact h
  · exact ⟨h.nx1, h.nx9, h.lf0, h.lf1, h.dg0, h.dg8, by simp, h.size, fun e => by obtain ⟨e1, e2, e3⟩ := h.data e; exact ⟨e1, by simp; omega, e3⟩, h.ends⟩

theorem Done_below {w : World} {base g : Nat} {A : Option Addr} {n c : Nat} {s : St} (hb : Body w base g A n c s) {b : Bool} (h : (s.nx == 9) = b) :
    Calls Try.prog 10 #[.pointer (some ⟨g, 0, none⟩)] w fun e w' => e = .returned (.bool b) ∧ Below w.heap.size w w' :=
  (Done_any hb).mono fun e w' ⟨h1, h2⟩ => by
    subst h2
    rw [h] at h1
    exact ⟨h1, Below.refl _ _⟩

set_option maxRecDepth 20000 in
set_option maxHeartbeats 40000000 in
theorem feeds_any {W w : World} {g : Nat} {s0 : St} (hW : Below W.heap.size W w) (hb : Body w W.heap.size g none 0 0 s0) (hk : Ok s0) (h0 : s0.bd = 0) {A : Option Addr} {n c : Nat} {ll : List Row} (hll : Rows2 W A n c ll) (ht : tot ll ≤ 8192) (ch : Bool) (sz : Nat) (hsz : sz ≤ 4096) (hs : (ch = true ∧ s0 = st0) ∨ (ch = false ∧ s0 = stN sz)) :
    Calls Try.prog 12 #[.pointer (some ⟨g, 0, none⟩), .slice A n c, .bool ch, .int .i64 (sz : Int)] w fun e w' => e = .returned (.bool true) ∧ Below W.heap.size W w' := by
  have hnn : n ≤ maxLen := Nat.le_trans hll.rd.le hll.rd.max
  unfold maxLen at hnn
  have H0 := Lib.hid h0
  have HS := Lib.hid hs
  clear h0 hs
  go_enter Try.func12, Try.ntmps12
  go_wp2_with fail
  go_loopw [9, 10, 11, 12] (fun al us ov i wr => ∃ (j : Nat) (A' : Option Addr) (n' c' : Nat) (s : St) (Aa : Option Addr) (na ca : Nat) (all : List UInt8) (o : Int), j ≤ n ∧ al = .slice Aa na ca ∧ us = .int .i64 na ∧ ov = .int .i64 o ∧ i = .int .i64 j ∧
      Body wr W.heap.size g A' n' c' s ∧ Ok s ∧ Own wr W.heap.size 5 1 Aa na ca (all.map b8) ∧ blk Aa ≠ some g ∧ (∀ k, blk A' = some k → blk Aa ≠ some k) ∧ Below W.heap.size W wr ∧ Hid (na + tot (ll.drop j) ≤ 8192) ∧ Hid (s.bd = o) ∧ Hid (o = 0 → feedP s0 all = (na, s)) ∧ Hid (o ≠ 0 → s.got = [] ∧ (s.nx == 9) = false)) (fun _ _ _ i _ => n - (intOf i).toNat)
  case atStart => exact ⟨0, none, 0, 0, s0, none, 0, 0, [], 0, by omega, rfl, rfl, rfl, rfl, hb, hk, Own.nil_ _ _ _ _, by simp [blk], by simp [blk], hW, by simpa [Hid] using ht, H0, fun _ => rfl, fun h => absurd rfl h⟩
  case round =>
    obtain ⟨j, A', n', c', s, Aa, na, ca, all, o, hj, rfl, rfl, rfl, rfl, hbr, hkr, hor, hne1, hne2, hbel, hT, hS, hF, hE⟩ := hrel
    by_cases hjn : j < n
    · obtain ⟨⟨rA, rn, rc, rl⟩, hr, hidx, hcell, hrd, hrm⟩ := (hll.keep hbel).at (j : Int) j rfl hjn
      dsimp only at hcell hrd hrm
      have hT2 := Lib.hid (tot_drop hr.out)
      dsimp only at hT2
      have hrn : rn ≤ 8192 := by have := hT.out; have := hT2.out; omega
      have hna : na ≤ 8192 := by have := hT.out; omega
      have hrl := hrd.lenb
      go_wp2_with fail
      refine (Twin_any rA rn rc rl _ hrd (by omega)).mono ?_
      rintro e w1 ⟨At, rfl, hot, hbl1⟩
      have hBt : ∀ k, blk At = some k → ¬ Mine g A' k := by
        intro k hk hm
        have h1 := (hot.lt k hk).1
        rcases hm with h2 | h2
        · have := hbr.lt
          omega
        · have := (hbr.row.lt k h2).2
          omega
      have hge : ∀ i, Mine g A' i → W.heap.size ≤ i := by
        intro i hi
        rcases hi with h1 | h1
        · rw [h1]
          exact hbr.ge
        · exact (hbr.row.lt i h1).1
      have hbel1 := hbel.trans (hbl1.mono hbel.size)
      have hF1 := Lib.hid (Feed_any (hbr.below hbl1) hkr At rn (rn + 3) rl (twin_front hot.rd hrl) (by omega) hBt)
      go_wp2_with fail
      refine hF1.out.mono ?_
      rintro e w2 ⟨A2, n2, c2, rfl, hb2, hw2, hl2⟩
      have hbel2 := hbel1.trans (hw2.below hge hbel1.size)
      have hot2 := hot.but hw2 hBt
      have hor2 := (hor.below hbl1).but hw2 (by
        intro k hk hm
        rcases hm with h1 | h1
        · exact hne1 (by rw [hk, h1])
        · exact hne2 k h1 hk)
      obtain ⟨hcell2, hrd2⟩ := (hll.keep hbel2).row hr.out
      dsimp only at hcell2 hrd2
      obtain ⟨N, hN⟩ : ∃ N, feedN s rl = N := ⟨_, rfl⟩
      obtain ⟨E, hEE⟩ : ∃ E, (feedP s rl).2.bd = E := ⟨_, rfl⟩
      rw [hN, hEE]
      have HN := Lib.hid hN
      have HE := Lib.hid hEE
      clear hN hEE hF1 hcell hrd hbr
      go_wp2_with fail
      refine (Kept_true At rn rA rc rl _ hot2.rd hrd2 (by omega)).mono ?_
      rintro e w2' ⟨rfl, rfl⟩
      go_wp2_with fail
      refine (Spoil_any wr.heap.size At rn (rn + 3) _ _ (hot2.cut0 (hi := rn) (by omega))).mono ?_
      rintro e w3 ⟨rfl, hg3, hz3⟩
      have hz13 : wr.heap.size ≤ w1.heap.size := hbl1.size
      have hb3 := hb2.grown hg3 (by
        intro e
        exact hBt g e (.inl rfl)) (by
        intro k hk e
        rcases hl2 k hk with h1 | h1
        · exact hBt k e (.inr h1)
        · have h3 := (hot.lt k e).2
          omega)
      have hor3 := hor2.grown hg3 (by
        intro k hk e
        have h1 := (hot.lt k e).1
        have h2 := (hor.lt k hk).2
        omega)
      have hbel3 := hbel2.grown hg3 hbel2.size (by
        intro k hk
        have := (hot.lt k hk).1
        have := hbel.size
        omega)
      have hne1' : blk Aa ≠ some g := hne1
      have hne3 : ∀ k, blk A2 = some k → blk Aa ≠ some k := by
        intro k hk e
        rcases hl2 k hk with h1 | h1
        · exact hne2 k h1 e
        · have := (hor.lt k e).2
          omega
      clear hb2 hot2 hor2 hcell2 hrd2 hw2 hg3 hz3 hot hbl1 hBt hge hbel2 hbel1 hl2 hne2
      by_cases ho : o = 0
      · subst ho
        have hal := hor3.lenb
        obtain ⟨kk, hkN, hkl, hcase⟩ := feed_told (l := rl) (hF.out rfl) hal hS.out
        obtain rfl : N = (kk : Int) := HN.out.symm.trans hkN
        have hok2 := fin_ok (feedP_ok rl s hkr)
        obtain ⟨s2, hs2⟩ : ∃ s2, finP (feedP s rl).2 = s2 := ⟨_, rfl⟩
        rw [hs2] at hcase hb3 hok2
        rw [HE.out] at hcase
        have hkk : kk ≤ rn := by omega
        have HC := Lib.hid hcase
        clear hcase hkN hs2 HN HE hkl
        obtain ⟨hcell3, hrd3⟩ := (hll.keep hbel3).row hr.out
        dsimp only at hcell3 hrd3
        go_wp2_with (at_builtin; refine wpList_app rfl _ _ rfl eb hor3 rfl hrd3 rfl (b8_one _) (by omega) (by unfold maxLen; omega) hbel3.size ?_; intro A4 c4 w4 ho4 hg4 hq4; rw [← List.map_append] at ho4)
        have hb4 := hb3.grown hg4 hne1 hne3
        have hbel4 := hbel3.grown hg4 hbel3.size (fun k hk => (hor3.lt k hk).1)
        have hne4 : blk A4 ≠ some g := by
          intro e
          rcases hq4 with h1 | h1
          · exact hne1 (h1.symm.trans e)
          · have := hb3.lt
            rw [h1] at e
            injection e with e
            omega
        have hne5 : ∀ k, blk A2 = some k → blk A4 ≠ some k := by
          intro k hk e
          rcases hq4 with h1 | h1
          · exact hne3 k hk (h1.symm.trans e)
          · have := (hb3.row.lt k hk).2
            rw [h1] at e
            injection e with e
            omega
        clear hb3 hbel3 hor3 hne1 hne3 hcell3 hrd3 hg4 hq4 hne1'
        refine (RSized_any A4 (na + rn) c4 (all ++ rl) ho4.rd (by omega) sz hsz).mono ?_
        rintro e w5 ⟨n5, rfl, hr5, hbl5⟩
        have hr5' := hr5.below hbl5
        go_upto_if 73 with (fail)
        go_cut [16] from 19 to 130 (fun tp wx => ∃ (At' : Option Addr) (nt ct : Nat), tp = .pointer (some ⟨w5.heap.size, 0, none⟩) ∧ Hid (wx.heap[w5.heap.size]? = some (.cells #[.int .i64 (toldP (feedP s0 (all ++ rl))).1, .slice At' nt ct, .int .i64 (toldP (feedP s0 (all ++ rl))).2.2] 47 (0, 0))) ∧ Rd wx 1 At' nt ct ((toldP (feedP s0 (all ++ rl))).2.1.map b8) ∧ Below w5.heap.size w5 wx ∧ w5.heap.size < wx.heap.size)
        case first =>
          rcases HS.out with ⟨rfl, rfl⟩ | ⟨rfl, rfl⟩
          · go_wp2_with fail
            refine (RChunked_any A4 (na + rn) c4 (all ++ rl) ((ho4.below hbl5).alloc _).rd (by omega)).mono ?_
            rintro e w6 ⟨A6, n6, c6, rfl, ho6, hbl6⟩
            have hcell6 := (hbl6.block w5.heap.size (by simp)).trans (heap_new _ _)
            obtain ⟨q0, q1, q2, f0, f1, f2⟩ := told_cells hcell6
            have hset := told_set (v0 := .int .i64 (toldP (feedP st0 (all ++ rl))).1) (v1 := .slice A6 n6 c6) (v2 := .int .i64 (toldP (feedP st0 (all ++ rl))).2.2) hcell6
            have hb56 := ((Below.refl w5.heap.size w5).alloc (Nat.le_refl _) _).trans (hbl6.mono (by simp))
            have hsz6 : w5.heap.size < w6.heap.size := by
              have := hbl6.size
              simp at this
              omega
            clear hcell6
            go_wp2_with fail
            go_meet
            refine ⟨A6, n6, c6, rfl, hset, ho6.rd.keep fun k hk _ => ?_, ((hb56.setCell (Nat.le_refl _) _).setCell (Nat.le_refl _) _).setCell (Nat.le_refl _) _, by simpa [World.setCell] using hsz6⟩
            have hne : w5.heap.size ≠ k := by
              have := (ho6.lt k hk).1
              simp at this
              omega
            rw [heap_setCell_ne _ hne, heap_setCell_ne _ hne, heap_setCell_ne _ hne]
          · go_wp2_with fail
            go_meet
            exact ⟨A4, n5, c4, rfl, heap_new _ _, hr5'.alloc _, (Below.refl _ _).alloc (Nat.le_refl _) _, by simp⟩
        case rest =>
          obtain ⟨A6, n6, c6, rfl, hcell6, hr6, hbl6, hsz6⟩ := hcut
          have hbA := hbl5.trans (hbl6.mono hbl5.size)
          have hb6 := hb4.below hbA
          have ho6 := ho4.below hbA
          have hbel6 := hbel4.trans (hbA.mono hbel4.size)
          have hgl : s2.got.length ≤ 4096 := hok2.len
          clear hb4 ho4 hbel4 hr5 hr5' hbl5 hbA hF hS hW hb hk hkr
          rcases HC.out with ⟨E', hE0, rfl, rfl, hbd, hnx, hgot, htold⟩ | ⟨rfl, hbd, hfeed, ⟨hnx, htold⟩ | ⟨hnx, hk3, htold⟩⟩
          · rw [htold] at hcell6 hr6
            clear HC htold
            obtain ⟨q0, q1, q2, f0, f1, f2⟩ := told_cells hcell6.out
            have HNX := Lib.hid hnx
            have e1 : (E != 0) = true := by simpa using hE0
            have e2 : (E == 0) = false := by simpa using hE0
            have HE0 := Lib.hid hE0
            have HG := Lib.hid hgot
            have Hbd := Lib.hid hbd
            clear hE0 hgot hbd
            go_wp2_with (go_at_call 11; refine (Data_any hb6 (by omega)).mono ?_; rintro e w7 ⟨A7, n7, c7, rfl, ho7, hbl7⟩; rw [HG.out] at ho7)
            have hb7 := hb6.below hbl7
            have hc7 : ∀ p : Regrown, (Go.Sort.grow (redrawn w7 p.d) p.os).heap[w5.heap.size]? = _ := fun p => ((below_regrown w7 p.d p.os).block _ (Nat.lt_of_lt_of_le hsz6 hbl7.size)).trans ((hbl7.block _ hsz6).trans hcell6.out)
            have g0 := fun p : Regrown => (told_cells (hc7 p)).1
            have g1 := fun p : Regrown => (told_cells (hc7 p)).2.1
            have g2 := fun p : Regrown => (told_cells (hc7 p)).2.2.1
            have hs7 := fun p : Regrown => str_rd (ho7.below (below_regrown w7 p.d p.os)).rd
            have hs8 := fun p : Regrown => str_rd ((hr6.below hbl7).below (below_regrown w7 p.d p.os))
            have hD7 := fun p : Regrown => Lib.hid (Done_below (hb7.below (below_regrown w7 p.d p.os)) hnx)
            clear hc7 hnx
            refine wp_region_qb (by kernel_rfl) (by kernel_rfl) ?_
            repeat (go_big_quiet_step ((go_at_call 10; exact Calls.regrown_of (hD7 _).out)))
            refine wpQuiet_nil ?_
            intro wq hbq
            have hb8 := hb7.below hbq
            have ho8 := (ho6.below hbl7).below hbq
            have ho9 := ho7.below hbq
            have hbelq := hbel6.trans ((hbl7.trans (hbq.mono hbl7.size)).mono hbel6.size)
            have hap1 : blk A7 ≠ some g := fun e => by
              have := (ho7.lt g e).1
              have := hb6.lt
              omega
            have hap2 : ∀ k, blk A2 = some k → blk A7 ≠ some k := fun k hk e => by
              have := (ho7.lt k e).1
              have := (hb6.row.lt k hk).2
              omega
            have hap3 : ∀ k, blk A4 = some k → blk A7 ≠ some k := fun k hk e => by
              have := (ho7.lt k e).1
              have := (ho6.lt k hk).2
              omega
            have hsl := run_slice_h_rd (P := Try.prog) (A := A4) (n := na + rn) (c := c4) eb (kh := .i64) (na + 0) (H := (na : Int)) (by omega) (by have := ho6.rd.le; omega)
            clear g0 g1 g2 hs7 hs8 hD7 q0 q1 q2 f0 f1 f2 hb8
            go_wp2_with fail
            refine (Spoil_any wc.heap.size A7 n7 c7 _ _ ho9).mono ?_
            rintro e w8 ⟨rfl, hg8, hz8⟩
            have hbA8 := (hb7.below hbq).grown hg8 hap1 hap2
            have hoA8 := ho8.grown hg8 hap3
            have hbel8 := hbelq.grown hg8 hbelq.size (fun k hk => by
              have := (ho7.lt k hk).1
              have := hbel6.size
              omega)
            clear hap1 hap2 hap3 hz8
            go_wp2_with fail
            go_roundw
            case rel =>
              refine ⟨j + 1, A2, n2, c2, s2, A4, na + 0, c4, (all ++ rl).take (na + 0), E, by omega, rfl, rfl, rfl, by go_num, hbA8, hok2, ?_, hne4, hne5, hbel8, ?_, Hbd, ?_, ?_⟩
              · have := hoA8.cut0 (hi := na + 0) (by omega)
                rw [Nat.mul_one, ← List.map_take] at this
                exact this
              · show _ ≤ _
                have := hT.out
                have := hT2.out
                omega
              · exact fun h => absurd h HE0.out
              · exact fun _ => ⟨HG.out, HNX.out⟩
            case measure => simp [intOf]; omega
          · rw [htold, Int.natCast_add] at hcell6
            rw [htold] at hr6
            clear HC htold
            obtain ⟨q0, q1, q2, f0, f1, f2⟩ := told_cells hcell6.out
            have HNX := Lib.hid hnx
            have e1 : ((kk : Int) != (na : Int) + (kk : Int) - (na : Int)) = false := by
              simp
              omega
            have e2 : (0 : Int) ≤ (na : Int) + (kk : Int) := by omega
            have Hbd := Lib.hid hbd
            have HFd := Lib.hid hfeed
            clear hbd hfeed
            go_wp2_with (go_at_call 11; refine (Data_any hb6 (by omega)).mono ?_; rintro e w7 ⟨A7, n7, c7, rfl, ho7, hbl7⟩)
            have hb7 := hb6.below hbl7
            have hc7 : ∀ p : Regrown, (Go.Sort.grow (redrawn w7 p.d) p.os).heap[w5.heap.size]? = _ := fun p => ((below_regrown w7 p.d p.os).block _ (Nat.lt_of_lt_of_le hsz6 hbl7.size)).trans ((hbl7.block _ hsz6).trans hcell6.out)
            have g0 := fun p : Regrown => (told_cells (hc7 p)).1
            have g1 := fun p : Regrown => (told_cells (hc7 p)).2.1
            have g2 := fun p : Regrown => (told_cells (hc7 p)).2.2.1
            have hs7 := fun p : Regrown => str_rd (ho7.below (below_regrown w7 p.d p.os)).rd
            have hs8 := fun p : Regrown => str_rd ((hr6.below hbl7).below (below_regrown w7 p.d p.os))
            have hD7 := fun p : Regrown => Lib.hid (Done_below (hb7.below (below_regrown w7 p.d p.os)) hnx)
            clear hc7 hnx
            refine wp_region_qb (by kernel_rfl) (by kernel_rfl) ?_
            repeat (go_big_quiet_step ((go_at_call 10; exact Calls.regrown_of (hD7 _).out)))
            refine wpQuiet_nil ?_
            intro wq hbq
            have hb8 := hb7.below hbq
            have ho8 := (ho6.below hbl7).below hbq
            have ho9 := ho7.below hbq
            have hbelq := hbel6.trans ((hbl7.trans (hbq.mono hbl7.size)).mono hbel6.size)
            have hap1 : blk A7 ≠ some g := fun e => by
              have := (ho7.lt g e).1
              have := hb6.lt
              omega
            have hap2 : ∀ k, blk A2 = some k → blk A7 ≠ some k := fun k hk e => by
              have := (ho7.lt k e).1
              have := (hb6.row.lt k hk).2
              omega
            have hap3 : ∀ k, blk A4 = some k → blk A7 ≠ some k := fun k hk e => by
              have := (ho7.lt k e).1
              have := (ho6.lt k hk).2
              omega
            have hsl := run_slice_h_rd (P := Try.prog) (A := A4) (n := na + rn) (c := c4) eb (kh := .i64) (na + kk) (H := (na : Int) + kk) (by omega) (by have := ho6.rd.le; omega)
            clear g0 g1 g2 hs7 hs8 hD7 q0 q1 q2 f0 f1 f2 hb8
            go_wp2_with fail
            refine (Spoil_any wc.heap.size A7 n7 c7 _ _ ho9).mono ?_
            rintro e w8 ⟨rfl, hg8, hz8⟩
            have hbA8 := (hb7.below hbq).grown hg8 hap1 hap2
            have hoA8 := ho8.grown hg8 hap3
            have hbel8 := hbelq.grown hg8 hbelq.size (fun k hk => by
              have := (ho7.lt k hk).1
              have := hbel6.size
              omega)
            clear hap1 hap2 hap3 hz8
            go_wp2_with fail
            go_roundw
            case rel =>
              refine ⟨j + 1, A2, n2, c2, s2, A4, na + kk, c4, (all ++ rl).take (na + kk), 0, by omega, rfl, by go_num, rfl, by go_num, hbA8, hok2, ?_, hne4, hne5, hbel8, ?_, Hbd, ?_, ?_⟩
              · have := hoA8.cut0 (hi := na + kk) (by omega)
                rw [Nat.mul_one, ← List.map_take] at this
                exact this
              · show _ ≤ _
                have := hT.out
                have := hT2.out
                omega
              · exact fun _ => HFd.out
              · exact fun h => absurd rfl h
            case measure => simp [intOf]; omega
          · obtain rfl : kk = rn := by omega
            clear hk3 hrl hkk
            rw [htold] at hcell6 hr6
            clear HC htold
            obtain ⟨q0, q1, q2, f0, f1, f2⟩ := told_cells hcell6.out
            have HNX := Lib.hid hnx
            have e1 : ((kk : Int) != (na : Int) + (kk : Int) - (na : Int)) = false := by
              simp
              omega
            have Hbd := Lib.hid hbd
            have HFd := Lib.hid hfeed
            clear hbd hfeed
            go_wp2_with (go_at_call 11; refine (Data_any hb6 (by omega)).mono ?_; rintro e w7 ⟨A7, n7, c7, rfl, ho7, hbl7⟩)
            have hb7 := hb6.below hbl7
            have hc7 : ∀ p : Regrown, (Go.Sort.grow (redrawn w7 p.d) p.os).heap[w5.heap.size]? = _ := fun p => ((below_regrown w7 p.d p.os).block _ (Nat.lt_of_lt_of_le hsz6 hbl7.size)).trans ((hbl7.block _ hsz6).trans hcell6.out)
            have g0 := fun p : Regrown => (told_cells (hc7 p)).1
            have g1 := fun p : Regrown => (told_cells (hc7 p)).2.1
            have g2 := fun p : Regrown => (told_cells (hc7 p)).2.2.1
            have hs7 := fun p : Regrown => str_rd (ho7.below (below_regrown w7 p.d p.os)).rd
            have hs8 := fun p : Regrown => str_rd ((hr6.below hbl7).below (below_regrown w7 p.d p.os))
            have hD7 := fun p : Regrown => Lib.hid (Done_below (hb7.below (below_regrown w7 p.d p.os)) hnx)
            clear hc7 hnx
            refine wp_region_qb (by kernel_rfl) (by kernel_rfl) ?_
            repeat (go_big_quiet_step ((go_at_call 10; exact Calls.regrown_of (hD7 _).out)))
            refine wpQuiet_nil ?_
            intro wq hbq
            have hb8 := hb7.below hbq
            have ho8 := (ho6.below hbl7).below hbq
            have ho9 := ho7.below hbq
            have hbelq := hbel6.trans ((hbl7.trans (hbq.mono hbl7.size)).mono hbel6.size)
            have hap1 : blk A7 ≠ some g := fun e => by
              have := (ho7.lt g e).1
              have := hb6.lt
              omega
            have hap2 : ∀ k, blk A2 = some k → blk A7 ≠ some k := fun k hk e => by
              have := (ho7.lt k e).1
              have := (hb6.row.lt k hk).2
              omega
            have hap3 : ∀ k, blk A4 = some k → blk A7 ≠ some k := fun k hk e => by
              have := (ho7.lt k e).1
              have := (ho6.lt k hk).2
              omega
            have hsl := run_slice_h_rd (P := Try.prog) (A := A4) (n := na + kk) (c := c4) eb (kh := .i64) (na + kk) (H := (na : Int) + kk) (by omega) (by have := ho6.rd.le; omega)
            clear g0 g1 g2 hs7 hs8 hD7 q0 q1 q2 f0 f1 f2 hb8
            go_wp2_with fail
            refine (Spoil_any wc.heap.size A7 n7 c7 _ _ ho9).mono ?_
            rintro e w8 ⟨rfl, hg8, hz8⟩
            have hbA8 := (hb7.below hbq).grown hg8 hap1 hap2
            have hoA8 := ho8.grown hg8 hap3
            have hbel8 := hbelq.grown hg8 hbelq.size (fun k hk => by
              have := (ho7.lt k hk).1
              have := hbel6.size
              omega)
            clear hap1 hap2 hap3 hz8
            go_wp2_with fail
            go_roundw
            case rel =>
              refine ⟨j + 1, A2, n2, c2, s2, A4, na + kk, c4, (all ++ rl).take (na + kk), 0, by omega, rfl, by go_num, rfl, by go_num, hbA8, hok2, ?_, hne4, hne5, hbel8, ?_, Hbd, ?_, ?_⟩
              · have := hoA8.cut0 (hi := na + kk) (by omega)
                rw [Nat.mul_one, ← List.map_take] at this
                exact this
              · show _ ≤ _
                have := hT.out
                have := hT2.out
                omega
              · exact fun _ => HFd.out
              · exact fun h => absurd rfl h
            case measure => simp [intOf]; omega
      · obtain ⟨hg0, hnx⟩ := hE.out ho
        have hst : feedP s rl = (0, s) := feedP_stop (.inr (by rw [hS.out]; exact ho)) rl
        have hfs : finP (feedP s rl).2 = s := by
          rw [hst]
          unfold finP
          rw [if_neg (by rw [hS.out]; exact ho)]
          cases s
          simp only [St.mk.injEq, true_and]
          exact hg0.symm
        rw [hfs] at hb3
        obtain rfl : N = 0 := by
          have h1 := HN.out
          unfold feedN at h1
          rw [hst, if_neg (by rw [hS.out]; exact ho)] at h1
          exact h1.symm
        obtain rfl : E = o := by
          have h1 := HE.out
          rw [hst, hS.out] at h1
          exact h1.symm
        have ho' : (E != 0) = true := by simpa using ho
        have HG := Lib.hid hg0
        have HO := Lib.hid ho
        clear hg0 ho hst hfs
        go_wp2_with (first
          | (go_at_call 10; refine (Done_any hb3).mono ?_; rintro e w4 ⟨rfl, rfl⟩)
          | (go_at_call 11; refine (Data_any hb3 (by rw [HG.out]; decide)).mono ?_; rintro e w5 ⟨A5, n5, c5, rfl, ho5, hbl5⟩; obtain rfl : 0 = n5 := (by have h1 := ho5.lenb; rw [HG.out] at h1; exact h1)))
        go_roundw
        case rel =>
          refine ⟨j + 1, A2, n2, c2, s, Aa, na, ca, all, E, by omega, rfl, rfl, rfl, by go_num, hb3.below hbl5, hkr, hor3.below hbl5, hne1, hne3, hbel3.trans (hbl5.mono hbel3.size), ?_, hS, hF, hE⟩
          show _ ≤ _
          have := hT.out
          have := hT2.out
          omega
        case measure => simp [intOf]; omega
    · go_wp2_with fail
      go_ret
      exact ⟨rfl, hbel⟩

end Go.Proofs.Ythijpbakhnakeaa
