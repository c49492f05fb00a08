/-
  The law ChunkBack.
-/
import Derived.Test.YthijpbakhnakeaaDoorHexD
import Derived.Test.YthijpbakhnakeaaDoorHexW
import Derived.Test.YthijpbakhnakeaaDoorCutB
import Derived.Test.YthijpbakhnakeaaDoorMix
namespace Go.Proofs.YthijpbakhnakeaaDoor
open Go.RowKit

theorem feedP_app : ∀ (l : List UInt8) (s : St) (x : List UInt8), feedP s (l ++ x) = ((feedP s l).1 + (feedP (feedP s l).2 x).1, (feedP (feedP s l).2 x).2)
  | [], s, x => by simp [feedP]
  | a :: l, s, x => by
    by_cases hn : s.nx = 9 ∨ s.bd ≠ 0
    · rw [feedP_stop hn, feedP_stop hn (a :: l)]
      dsimp only
      rw [feedP_stop hn x]
      simp
    · rw [List.cons_append, feedP, if_neg hn, feedP_app l, feedP, if_neg hn]
      simp only [Nat.add_right_comm]
theorem Rows2.but {S : Nat → Prop} {w w' : World} {A : Option Addr} {n c : Nat} {ll : List Row} (h : Rows2 w A n c ll) (hb : But S w w') (h1 : ∀ k, (blk A = some k ∨ ∃ r ∈ ll, blk r.A = some k) → ¬ S k) : Rows2 w' A n c ll :=
  ⟨h.rd.but hb fun k hk => h1 k (.inl hk), fun r hr => (h.each r hr).but hb fun k hk => h1 k (.inr ⟨r, hr, hk⟩)⟩
theorem flat_take {ll : List Row} {j : Nat} {r : Row} (h : ll[j]? = some r) : flat (ll.take (j + 1)) = flat (ll.take j) ++ r.l := by
  obtain ⟨hj, rfl⟩ := List.getElem?_eq_some_iff.1 h
  rw [List.take_succ_eq_append_getElem hj, flat_snoc]
theorem flat_drop {ll : List Row} (j : Nat) : flat ll = flat (ll.take j) ++ flat (ll.drop j) := by
  unfold flat
  rw [← List.flatten_append, ← List.map_append, List.take_append_drop]
/-- How far a feeding is that ends well. -/
def fedAt (T P : List UInt8) (N : Nat) (l : List UInt8) (K : Nat) (s : St) : Prop := feedP st0 T = (N, ⟨9, 0, 0, 0, l⟩) ∧ feedP st0 P = (K, s)
theorem fed_next {ll : List Row} {j N K : Nat} {l : List UInt8} {s : St} {r : Row} (h : fedAt (flat ll) (flat (ll.take j)) N l K s) (hr : ll[j]? = some r) :
    (feedP s r.l).2.bd = 0 ∧ fedAt (flat ll) (flat (ll.take (j + 1))) N l (K + (feedP s r.l).1) (feedP s r.l).2 ∧ K + (feedP s r.l).1 ≤ N ∧ ((feedP s r.l).1 < r.l.length → K + (feedP s r.l).1 = N ∧ (feedP s r.l).2 = ⟨9, 0, 0, 0, l⟩) := by
  obtain ⟨h1, h2⟩ := h
  have ht := flat_take hr
  have ha := feedP_app (flat (ll.take j)) st0 r.l
  rw [← ht, h2] at ha
  dsimp only at ha
  have hd := flat_drop (ll := ll) (j + 1)
  have hT := feedP_app (flat (ll.take (j + 1))) st0 (flat (ll.drop (j + 1)))
  rw [← hd, h1, ha] at hT
  dsimp only at hT
  have e1 := congrArg Prod.fst hT
  have e2 := congrArg Prod.snd hT
  dsimp only at e1 e2
  have hbd : (feedP s r.l).2.bd = 0 := by
    by_cases hb : (feedP s r.l).2.bd = 0
    · exact hb
    · rw [feedP_stop (.inr hb)] at e2
      dsimp only at e2
      rw [← e2] at hb
      exact absurd rfl hb
  refine ⟨hbd, ⟨h1, ha⟩, by omega, fun hlt => ?_⟩
  have h9 : (feedP s r.l).2.nx = 9 := by
    by_cases h9 : (feedP s r.l).2.nx = 9
    · exact h9
    · have := feedP_all r.l s h9 hbd
      omega
  rw [feedP_stop (.inl h9)] at e1 e2
  exact ⟨by simpa using e1.symm, e2.symm⟩
theorem fed_end {ll : List Row} {j N K : Nat} {l : List UInt8} {s : St} (h : fedAt (flat ll) (flat (ll.take j)) N l K s) (hj : ll.length ≤ j) : K = N ∧ s = ⟨9, 0, 0, 0, l⟩ := by
  obtain ⟨h1, h2⟩ := h
  rw [List.take_of_length_le hj, h1] at h2
  exact ⟨(congrArg Prod.fst h2).symm, (congrArg Prod.snd h2).symm⟩

set_option maxRecDepth 20000 in
set_option maxHeartbeats 16000000 in
theorem chunkBack_walk {w : World} (ht : HTab w) (A : Option Addr) (n c : Nat) (l : List UInt8) (h : Rd w 1 A n c (l.map b8)) (sz : Int) (_ : -9223372036854775808 ≤ sz) (_ : sz ≤ 9223372036854775807)
    (A2 : Option Addr) (n2 c2 : Nat) (zs : List Int) (h2 : RdI w A2 n2 c2 zs) (A3 : Option Addr) (n3 c3 : Nat) (l3 : List UInt8) (h3 : Rd w 1 A3 n3 c3 (l3.map b8)) :
    Calls Tryd.prog 4 #[.slice A n c, .int .i64 sz, .slice A2 n2 c2, .slice A3 n3 c3] w fun e w' => e = .returned (.bool true) ∧ Below w.heap.size w w' := by
  have HB := Lib.hid (begun_any w)
  have HT := Lib.hid (fun W (hb : Below w.heap.size w W) => ht.below hb)
  have HH := Lib.hid h
  have H2 := Lib.hid h2
  have H3 := Lib.hid h3
  have HLN := Lib.hid h.lenb
  have HL3 := Lib.hid h3.lenb
  clear ht h h2 h3
  by_cases a1 : (4096 : Int) < n
  · go_enter Tryd.func4, Tryd.ntmps4
    go_wp2_with fail
    refine HB.out.mono ?_
    rintro e w1 ⟨rfl, hb1⟩
    go_wp2_with fail
    go_ret
    exact ⟨rfl, hb1⟩
  have a1' : decide ((4096 : Int) < n) = false := decide_eq_false a1
  have q1 : n ≤ 4096 := by omega
  clear a1
  by_cases a2 : (100 : Int) < n2
  · go_enter Tryd.func4, Tryd.ntmps4
    go_wp2_with fail
    refine HB.out.mono ?_
    rintro e w1 ⟨rfl, hb1⟩
    go_wp2_with fail
    go_ret
    exact ⟨rfl, hb1⟩
  have a2' : decide ((100 : Int) < n2) = false := decide_eq_false a2
  have q2 : n2 ≤ 100 := by omega
  clear a2
  by_cases a3 : (1024 : Int) < n3
  · go_enter Tryd.func4, Tryd.ntmps4
    go_wp2_with fail
    refine HB.out.mono ?_
    rintro e w1 ⟨rfl, hb1⟩
    go_wp2_with fail
    go_ret
    exact ⟨rfl, hb1⟩
  have a3' : decide ((1024 : Int) < n3) = false := decide_eq_false a3
  have q3 : n3 ≤ 1024 := by omega
  clear a3
  have hK1 : 1 ≤ (max sz 1).toNat := by omega
  have hfeed := feed_chunks (max sz 1).toNat hK1 l3 n l [] (by rw [HLN.out]; omega) (by rw [HLN.out]; simp; omega)
  have hxl := chunksL_len (max sz 1).toNat hK1 n l (by rw [HLN.out]; omega)
  rw [HLN.out] at hxl
  obtain ⟨X, hX⟩ : ∃ X, chunksL (max sz 1).toNat n l = X := ⟨_, rfl⟩
  rw [hX] at hfeed hxl
  have HC := Lib.hid (fun w' hb => Chunks_any (w := w') A n c l (HH.out.below hb) (by omega) sz (HT.out _ hb))
  rw [hX] at HC
  have HF := Lib.hid hfeed
  clear hX hfeed hK1
  go_enter Tryd.func4, Tryd.ntmps4
  go_wp2_with fail
  refine HB.out.mono ?_
  rintro e w1 ⟨rfl, hb1⟩
  go_wp2_with fail
  refine (HC.out _ hb1).mono ?_
  rintro e w4 ⟨A4, n4, c4, rfl, ho4, hbl4⟩
  have hb4 := hb1.trans (hbl4.mono hb1.size)
  have hn4 := ho4.lenb
  rw [hn4] at hxl
  have HN4 := Lib.hid hn4
  clear hn4
  go_wp2_with (at_builtin; refine wpList_app rfl _ _ rfl eb ho4 rfl (H3.out.below hb4) rfl (b8_one _) (by omega) (by unfold maxLen; omega) hbl4.size ?_; intro A5 c5 w5 ho5 hg5 hq5; rw [← List.map_append] at ho5)
  have hb5 := hb4.grown hg5 hb4.size (fun g hg => Nat.le_trans hb1.size (ho4.lt g hg).1)
  refine (Cut_any A5 (n4 + n3) c5 (X ++ l3) ho5.rd A2 n2 c2 zs (H2.out.below hb5) (by omega) (by omega)).mono ?_
  rintro e w6 ⟨L, m, d, ll, rfl, ho6, hE6, hf6, hm6, hbl6⟩
  have hb6 := hb5.trans (hbl6.mono hb5.size)
  go_wp2_with fail
  refine (Chunked_any _).mono ?_
  rintro e w7 ⟨rfl, hbody7, hbl7⟩
  have hB7 := hb6.trans (hbl7.mono hb6.size)
  have hz7 := hbody7.lt
  have hz6 := hb6.size
  have hrows : Rows2 w7 L m d ll := ⟨ho6.rd.below hbl7, fun r hr => (hE6 r hr).1.below (hbl6.trans (hbl7.mono hbl6.size))⟩
  have hrn : ∀ r ∈ ll, r.n ≤ 1048576 := fun r hr => by have := (hE6 r hr).2.2.1; omega
  have hNk : ∀ k, (blk L = some k ∨ ∃ r ∈ ll, blk r.A = some k) → k < w6.heap.size := by
    rintro k (hk | ⟨r, hr, hk⟩)
    · exact (ho6.lt k hk).2
    · rw [(hE6 r hr).2.2.2] at hk
      have := (ho5.lt k hk).2
      have := hbl6.size
      omega
  have HRN := Lib.hid hrn
  have HNK := Lib.hid hNk
  have HROW := Lib.hid hrows
  have hst : fedAt (flat ll) (flat (ll.take 0)) n4 l 0 st0 := by
    refine ⟨?_, rfl⟩
    rw [hf6]
    have := HF.out
    rw [HN4.out] at this
    exact this
  have HST := Lib.hid hst
  have hnl : l.length = n := HLN.out
  clear hrows hrn hNk hst ho6 hE6 hf6 hbl6 hbl7 ho5 hg5 hq5 ho4 hbl4 hb1 hb4 hb5 hb6
  go_wp2_with fail
  go_loopw [13, 14] (fun u i wr => ∃ (j K : Nat) (A' : Option Addr) (n' c' : Nat) (s' : St), j ≤ m ∧ u = .int .i64 K ∧ i = .int .i64 j ∧ K ≤ n4 ∧ Body wr w6.heap.size w6.heap.size A' n' c' s' ∧ Ok s' ∧ But (Mine w6.heap.size none) w7 wr ∧ (∀ k, blk A' = some k → w7.heap.size ≤ k) ∧ Hid (fedAt (flat ll) (flat (ll.take j)) n4 l K s')) (fun _ i _ => m - (intOf i).toNat)
  case atStart => exact ⟨0, 0, none, 0, 0, st0, by omega, rfl, rfl, by omega, hbody7, ok0, But.refl _ _, fun k h => by simp [blk] at h, HST.out⟩
  case round =>
    obtain ⟨j, K, A', n', c', s', hj, rfl, rfl, hK, hb', hk', hw', hlast, hH⟩ := hrel
    have hN' : ∀ k, (blk L = some k ∨ ∃ r ∈ ll, blk r.A = some k) → ¬ Mine w6.heap.size A' k := by
      intro k hkk hm
      have h1 := HNK.out k hkk
      rcases hm with h3 | h3
      · omega
      · have := hlast k h3
        omega
    have HN' := Lib.hid hN'
    clear hN'
    by_cases hjm : j < m
    · obtain ⟨⟨rA, rn, rc, rl⟩, hr, hidx, hcell, hrd, hrm⟩ := (HROW.out.but hw' (fun k h hM => by
        have h1 := HNK.out k h
        rcases hM with h3 | h3
        · omega
        · simp [blk] at h3)).at (j : Int) j rfl hjm
      dsimp only at hcell hrd hrm
      have hmem : (⟨rA, rn, rc, rl⟩ : Row) ∈ ll := List.mem_of_getElem? hr.out
      have hrn := HRN.out _ hmem
      dsimp only at hrn
      have hlr := hrd.lenb
      have HF2 := Lib.hid (Feed_any hb' hk' rA rn rc rl hrd (by omega) (fun k h => HN'.out k (.inr ⟨_, hmem, h⟩)))
      obtain ⟨f1, f2, f3, f4⟩ := fed_next hH.out hr.out
      dsimp only at f1 f2 f3 f4
      have hfn : feedN s' rl = (((feedP s' rl).1 : Nat) : Int) := if_pos f1
      have hfin : finP (feedP s' rl).2 = (feedP s' rl).2 := if_pos f1
      rw [hfn, hfin, f1] at HF2
      have hok2 := feedP_ok rl s' hk'
      obtain ⟨T, hT⟩ : ∃ T, feedP s' rl = T := ⟨_, rfl⟩
      rw [hT] at f1 f2 f3 f4 HF2 hok2
      obtain ⟨kk, s2⟩ := T
      dsimp only at f1 f2 f3 f4 HF2 hok2
      rw [hlr] at f4
      have F2 := Lib.hid f2
      have F4 := Lib.hid f4
      have HM2 := Lib.hid (fun W (hw2 : But (Mine w6.heap.size A') wr W) => (hw'.trans hw2 (by
        intro i hi
        rcases hi with h1 | h1
        · exact .inl (.inl h1)
        · exact .inr (hlast i h1)) : But (Mine w6.heap.size none) w7 W))
      have hs' := hw'.size
      clear hfn hfin hT f1 f2 f4 hmem hH hlr
      by_cases hlt : kk < rn
      · have hlt' : (kk : Int) < rn := by omega
        obtain ⟨hKN, hSt⟩ := F4.out hlt
        clear hlt
        go_wp2_with fail
        refine HF2.out.mono ?_
        rintro e wF ⟨AF, nF, cF, rfl, hbodyF, hw2, hl2⟩
        have hwF := HM2.out _ hw2
        obtain ⟨r2, hr2, hidx2, hcell2, hrd2, hrm2⟩ := (HROW.out.but hwF (fun k h hM => by
          have h1 := HNK.out k h
          rcases hM with h3 | h3
          · omega
          · simp [blk] at h3)).at (j : Int) j rfl hjm
        obtain rfl := Option.some.inj (hr.out.symm.trans hr2.out)
        dsimp only at hcell2
        clear hrd2 hrm2 hr2 hw2 hcell hidx hrd hrm
        have hbF : Body wF w6.heap.size w6.heap.size AF nF cF ⟨9, 0, 0, 0, l⟩ := by rw [← hSt]; exact hbodyF
        have hBF : Below w.heap.size w wF := hB7.trans (hwF.below (fun i hi => by
          rcases hi with h1 | h1
          · omega
          · simp [blk] at h1) (by omega))
        have hS := fun b : Later wF => str_rd ((HH.out.below hBF).below b.below)
        have hdF := (Below.refl wF.heap.size wF).drew
        have hKN' : ((K : Int) + (kk : Int) == (n4 : Int)) = true := by simp; omega
        clear hSt hbodyF hwF hKN
        go_wp2_with fail
        refine wp_region_mixb [0, 1, 2, 3, 4, 5, 6, 7, 8, 11, 12, 9, 10, 13, 14, 15] (by kernel_rfl) (by kernel_rfl) (by rfl) (by kernel_rfl) (fun _ _ _ _ _ h => h) ?_
        iterate 1 (refine mix_read (o := ⟨_, _, _, _, _, _⟩) (by rfl) (by rfl) ?_; go_big_quiet_step (fail); refine wpQuiet_nil ?_)
        refine mixb_call_as (o := ⟨_, _, _, _, _, _⟩) (by rfl) (by rfl) (by rfl) (fun K hK => ?_)
        go_wp2_with fail
        refine (Done_any (hbF.below hdF)).mono ?_
        rintro e w8 ⟨he, rfl⟩
        obtain rfl : e = .returned (.bool true) := he
        refine hK _ _ hdF ?_
        clear hK
        iterate 9 (refine mix_read (o := ⟨_, _, _, _, _, _⟩) (by rfl) (by rfl) ?_; go_big_quiet_step (fail); refine wpQuiet_nil ?_)
        refine mixb_call (o := ⟨_, _, _, _, _, _⟩) (by rfl) (by rfl) (by rfl) (fun K hK => ?_)
        go_wp2_with fail
        refine (Data_any (hbF.below hdF) (by dsimp only; omega)).mono ?_
        rintro e w8 ⟨A8, n8, c8, rfl, ho8, hbl8⟩
        have hbl8' := hdF.trans hbl8
        have hs8 := fun b : Later w8 => str_rd (ho8.below b.below).rd
        refine hK _ w8 hbl8' ?_
        clear hK
        iterate 4 (refine mix_read (o := ⟨_, _, _, _, _, _⟩) (by rfl) (by rfl) ?_; go_big_quiet_step (fail); refine wpQuiet_nil ?_)
        refine mix_done ?_
        clear hs8 hS
        go_wp2_with fail
        go_ret
        exact ⟨rfl, hBF.trans (hbl8'.mono hBF.size)⟩
      · have hlt' : (rn : Int) ≤ kk := by omega
        clear hlt
        go_wp2_with fail
        refine HF2.out.mono ?_
        rintro e wF ⟨AF, nF, cF, rfl, hbodyF, hw2, hl2⟩
        have hwF := HM2.out _ hw2
        obtain ⟨r2, hr2, hidx2, hcell2, hrd2, hrm2⟩ := (HROW.out.but hwF (fun k h hM => by
          have h1 := HNK.out k h
          rcases hM with h3 | h3
          · omega
          · simp [blk] at h3)).at (j : Int) j rfl hjm
        obtain rfl := Option.some.inj (hr.out.symm.trans hr2.out)
        dsimp only at hcell2
        clear hrd2 hrm2 hr2 hw2 hcell hidx hrd hrm
        have hlF : ∀ k, blk AF = some k → w7.heap.size ≤ k := by
          intro k hk
          rcases hl2 k hk with h1 | h1
          · exact hlast k h1
          · exact Nat.le_trans hs' h1
        clear hl2
        go_wp2_with fail
        go_roundw
        case rel => exact ⟨j + 1, K + kk, AF, nF, cF, s2, by omega, by go_num, by go_num, f3, hbodyF, hok2, hwF, hlF, F2.out⟩
        case measure => simp [intOf]; omega
    · obtain rfl : j = m := by omega
      obtain ⟨hKN, hSt⟩ := fed_end hH.out (by rw [HROW.out.len]; exact Nat.le_refl _)
      have hbodyF := hb'
      have hwr := hw'
      clear hH hjm
      have hbF : Body wr w6.heap.size w6.heap.size A' n' c' ⟨9, 0, 0, 0, l⟩ := by rw [← hSt]; exact hbodyF
      have hBF : Below w.heap.size w wr := hB7.trans (hwr.below (fun i hi => by
        rcases hi with h1 | h1
        · omega
        · simp [blk] at h1) (by omega))
      have hS := fun b : Later wr => str_rd ((HH.out.below hBF).below b.below)
      have hdF := (Below.refl wr.heap.size wr).drew
      subst hKN
      clear hSt hbodyF hwr
      go_wp2_with fail
      refine wp_region_mixb [0, 1, 2, 3, 4, 5, 6, 7, 8, 11, 12, 9, 10, 13, 14, 15] (by kernel_rfl) (by kernel_rfl) (by rfl) (by kernel_rfl) (fun _ _ _ _ _ h => h) ?_
      iterate 1 (refine mix_read (o := ⟨_, _, _, _, _, _⟩) (by rfl) (by rfl) ?_; go_big_quiet_step (fail); refine wpQuiet_nil ?_)
      refine mixb_call_as (o := ⟨_, _, _, _, _, _⟩) (by rfl) (by rfl) (by rfl) (fun K hK => ?_)
      go_wp2_with fail
      refine (Done_any (hbF.below hdF)).mono ?_
      rintro e w8 ⟨he, rfl⟩
      obtain rfl : e = .returned (.bool true) := he
      refine hK _ _ hdF ?_
      clear hK
      iterate 9 (refine mix_read (o := ⟨_, _, _, _, _, _⟩) (by rfl) (by rfl) ?_; go_big_quiet_step (fail); refine wpQuiet_nil ?_)
      refine mixb_call (o := ⟨_, _, _, _, _, _⟩) (by rfl) (by rfl) (by rfl) (fun K hK => ?_)
      go_wp2_with fail
      refine (Data_any (hbF.below hdF) (by dsimp only; omega)).mono ?_
      rintro e w8 ⟨A8, n8, c8, rfl, ho8, hbl8⟩
      have hbl8' := hdF.trans hbl8
      have hs8 := fun b : Later w8 => str_rd (ho8.below b.below).rd
      refine hK _ w8 hbl8' ?_
      clear hK
      iterate 4 (refine mix_read (o := ⟨_, _, _, _, _, _⟩) (by rfl) (by rfl) ?_; go_big_quiet_step (fail); refine wpQuiet_nil ?_)
      refine mix_done ?_
      clear hs8 hS
      go_wp2_with fail
      go_ret
      exact ⟨rfl, hBF.trans (hbl8'.mono hBF.size)⟩

end Go.Proofs.YthijpbakhnakeaaDoor
