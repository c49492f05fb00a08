/-
  The law ChunkPieces: pieces.
-/
import Derived.Test.YthijpbakhnakeaaChO
import Derived.Test.YthijpbakhnakeaaCutB
namespace Go.Proofs.Ythijpbakhnakeaa
open Go.RowKit

theorem feedP_app : ∀ (l : List UInt8) (s : St) (x : List UInt8), feedP s (l ++ x) = ((feedP s l).1 + (feedP (feedP s l).2 x).1, (feedP (feedP s l).2 x).2)
  | [], s, x => by simp [feedP]
  | a :: l, s, x => by
    by_cases hn : s.nx = 9 ∨ s.bd ≠ 0
    · rw [feedP_stop hn, feedP_stop hn (a :: l)]
      dsimp only
      rw [feedP_stop hn x]
      simp
    · rw [List.cons_append, feedP, if_neg hn, feedP_app l, feedP, if_neg hn]
      simp only [Nat.add_right_comm]
theorem Rows2.but {S : Nat → Prop} {w w' : World} {A : Option Addr} {n c : Nat} {ll : List Row} (h : Rows2 w A n c ll) (hb : But S w w') (h1 : ∀ k, (blk A = some k ∨ ∃ r ∈ ll, blk r.A = some k) → ¬ S k) : Rows2 w' A n c ll :=
  ⟨h.rd.but hb fun k hk => h1 k (.inl hk), fun r hr => (h.each r hr).but hb fun k hk => h1 k (.inr ⟨r, hr, hk⟩)⟩
theorem flat_take {ll : List Row} {j : Nat} {r : Row} (h : ll[j]? = some r) : flat (ll.take (j + 1)) = flat (ll.take j) ++ r.l := by
  obtain ⟨hj, rfl⟩ := List.getElem?_eq_some_iff.1 h
  rw [List.take_succ_eq_append_getElem hj, flat_snoc]
theorem flat_drop {ll : List Row} (j : Nat) : flat ll = flat (ll.take j) ++ flat (ll.drop j) := by
  unfold flat
  rw [← List.flatten_append, ← List.map_append, List.take_append_drop]

set_option maxRecDepth 20000 in
set_option maxHeartbeats 4000000 in
theorem pieces_any {w : World} {base g : Nat} {A : Option Addr} {n c : Nat} {s : St} (hb : Body w base g A n c s) (hk : Ok s) (h0 : s.bd = 0) {L : Option Addr} {m d : Nat} {ll : List Row} (hl : Rows2 w L m d ll)
    (hN : ∀ k, (blk L = some k ∨ ∃ r ∈ ll, blk r.A = some k) → ¬ Mine g A k ∧ k < w.heap.size) (hm : ∀ r ∈ ll, r.n ≤ 1048576) (hmm : m ≤ 1048576) (hf : (flat ll).length ≤ 1073741824) :
    Calls Try.prog 13 #[.pointer (some ⟨g, 0, none⟩), .slice L m d] w fun e w' => ∃ A' n' c', e = .returned (.tuple #[.int .i64 (feedN s (flat ll)), .int .i64 (feedP s (flat ll)).2.bd]) ∧ Body w' base g A' n' c' (finP (feedP s (flat ll)).2) ∧ But (Mine g A) w w' ∧ ∀ k, blk A' = some k → blk A = some k ∨ w.heap.size ≤ k := by
  have H0 := Lib.hid h0
  have HM := Lib.hid hm
  have HN := Lib.hid hN
  clear h0 hm hN
  go_enter Try.func13, Try.ntmps13
  go_wp2_with fail
  go_loopw [6, 7] (fun nn i wr => ∃ (j K : Nat) (A' : Option Addr) (n' c' : Nat) (s' : St), j ≤ m ∧ nn = .int .i64 K ∧ i = .int .i64 j ∧ K ≤ 1073741824 ∧ Body wr base g A' n' c' s' ∧ Ok s' ∧ But (Mine g A) w wr ∧ (∀ k, blk A' = some k → blk A = some k ∨ w.heap.size ≤ k) ∧ Hid (s'.bd = 0) ∧ Hid (feedP s (flat (ll.take j)) = (K, s'))) (fun _ i _ => m - (intOf i).toNat)
  case atStart => exact ⟨0, 0, A, n, c, s, by omega, rfl, rfl, by omega, hb, hk, But.refl _ _, fun k h => .inl h, H0, rfl⟩
  case round =>
    obtain ⟨j, K, A', n', c', s', hj, rfl, rfl, hK, hb', hk', hw', hlast, hbd, hH⟩ := hrel
    have hN' : ∀ k, (blk L = some k ∨ ∃ r ∈ ll, blk r.A = some k) → ¬ Mine g A' k := by
      intro k hkk hm
      obtain ⟨h1, h2⟩ := HN.out k hkk
      rcases hm with h3 | h3
      · exact h1 (.inl h3)
      · rcases hlast k h3 with h4 | h4
        · exact h1 (.inr h4)
        · omega
    have HN' := Lib.hid hN'
    clear hN'
    by_cases hjm : j < m
    · obtain ⟨⟨rA, rn, rc, rl⟩, hr, hidx, hcell, hrd, hrm⟩ := (hl.but hw' (fun k h => (HN.out k h).1)).at (j : Int) j rfl hjm
      dsimp only at hcell hrd hrm
      have hmem : (⟨rA, rn, rc, rl⟩ : Row) ∈ ll := List.mem_of_getElem? hr.out
      have hrn := HM.out _ hmem
      dsimp only at hrn
      have HF := Lib.hid (Feed_any hb' hk' rA rn rc rl hrd (by omega) (fun k h => HN'.out k (.inr ⟨_, hmem, h⟩)))
      have hft := flat_take hr.out
      have happ := feedP_app (flat (ll.take j)) s rl
      rw [← hft, hH.out] at happ
      dsimp only at happ
      have hle : (feedP s (flat (ll.take (j + 1)))).1 ≤ 1073741824 := by
        have h1 := feedP_le (flat (ll.take (j + 1))) s
        have h2 := congrArg List.length (flat_drop (ll := ll) (j + 1))
        rw [List.length_append] at h2
        omega
      rw [happ] at hle
      dsimp only at hle
      have HA := Lib.hid happ
      have HD := Lib.hid (flat_drop (ll := ll) (j + 1))
      obtain ⟨E, hE⟩ : ∃ E, (feedP s' rl).2.bd = E := ⟨_, rfl⟩
      obtain ⟨N, hNN⟩ : ∃ N, feedN s' rl = N := ⟨_, rfl⟩
      rw [hE, hNN] at HF
      have HE := Lib.hid hE
      have HNN := Lib.hid hNN
      have hok2 := feedP_ok rl s' hk'
      have hw2' : ∀ w2 : World, But (Mine g A') wr w2 → But (Mine g A) w w2 := fun w2 hw2 => hw'.trans hw2 (by
        intro i hi
        rcases hi with h1 | h1
        · exact .inl (.inl h1)
        · rcases hlast i h1 with h2 | h2
          · exact .inl (.inr h2)
          · exact .inr h2)
      have HW := Lib.hid hw2'
      clear hE hNN hft happ hmem hw2' hH
      by_cases hE0 : E = 0
      · subst hE0
        have hN0 := HNN.out
        unfold feedN at hN0
        rw [if_pos HE.out] at hN0
        have hfin : finP (feedP s' rl).2 = (feedP s' rl).2 := if_pos HE.out
        rw [hfin] at HF
        obtain ⟨kk, hkk⟩ : ∃ kk, (feedP s' rl).1 = kk := ⟨_, rfl⟩
        rw [hkk] at hN0 hle
        subst hN0
        have HK := Lib.hid hkk
        clear hkk hfin
        go_wp2_with fail
        refine HF.out.mono ?_
        rintro e w2 ⟨A2, n2, c2, rfl, hb2, hw2, hl2⟩
        go_wp2_with fail
        go_roundw
        case rel =>
          refine ⟨j + 1, K + kk, A2, n2, c2, (feedP s' rl).2, by omega, by go_num, by go_num, hle, hb2, hok2, HW.out _ hw2, ?_, HE, ?_⟩
          · intro i hi
            rcases hl2 i hi with h1 | h1
            · exact hlast i h1
            · exact .inr (Nat.le_trans hw'.size h1)
          · show _ = _
            rw [HA.out, HK.out]
        case measure => simp [intOf]; omega
      · have hE0' : (E != 0) = true := by simpa using hE0
        have hfin : feedP s (flat ll) = (K + (feedP s' rl).1, (feedP s' rl).2) := by
          have hst := feedP_stop (s := (feedP s' rl).2) (.inr (by rw [HE.out]; exact hE0)) (flat (ll.drop (j + 1)))
          rw [HD.out, feedP_app, HA.out]
          dsimp only
          rw [hst]
          rfl
        have hN0 : feedN s (flat ll) = 0 := by
          unfold feedN
          rw [hfin, if_neg (by dsimp only; rw [HE.out]; exact hE0)]
        have HFin := Lib.hid hfin
        have HN0 := Lib.hid hN0
        clear hfin hN0 hE0
        go_wp2_with fail
        refine HF.out.mono ?_
        rintro e w2 ⟨A2, n2, c2, rfl, hb2, hw2, hl2⟩
        go_wp2_with fail
        go_ret2
        rw [HN0.out, HFin.out]
        dsimp only
        rw [HE.out]
        refine ⟨A2, n2, c2, rfl, hb2, HW.out _ hw2, ?_⟩
        intro i hi
        rcases hl2 i hi with h1 | h1
        · exact hlast i h1
        · exact .inr (Nat.le_trans hw'.size h1)
    · obtain rfl : j = m := by omega
      have hall : ll.take j = ll := List.take_of_length_le (by rw [hl.len]; exact Nat.le_refl _)
      have hfin := hH.out
      rw [hall] at hfin
      have hN0 : feedN s (flat ll) = (K : Int) := by
        unfold feedN
        rw [hfin, if_pos hbd.out]
      have hfp : finP s' = s' := if_pos hbd.out
      have HFin := Lib.hid hfin
      have HN0 := Lib.hid hN0
      have HP := Lib.hid hfp
      clear hfin hN0 hall hfp hH
      go_wp2_with fail
      go_ret2
      rw [HN0.out, HFin.out]
      dsimp only
      rw [HP.out, hbd.out]
      exact ⟨A', n', c', rfl, hb', hw', hlast⟩

end Go.Proofs.Ythijpbakhnakeaa
