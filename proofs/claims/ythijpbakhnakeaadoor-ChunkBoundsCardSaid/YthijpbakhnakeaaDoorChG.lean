/-
  Package chunk: Feed.
-/
import Derived.Test.YthijpbakhnakeaaDoorChF
namespace Go.Proofs.YthijpbakhnakeaaDoor
open Go.RowKit

theorem Rd.but {S : Nat → Prop} {w w' : World} {size n c : Nat} {A : Option Addr} {xs : List Value} (h : Rd w size A n c xs) (hb : But S w w') (hS : ∀ k, blk A = some k → ¬ S k) : Rd w' size A n c xs :=
  h.keep fun k hk hlt => hb.block k hlt (hS k hk)
/-- An error empties a body. -/
def finP (s : St) : St := if s.bd = 0 then s else { s with got := [] }
def feedN (s : St) (l : List UInt8) : Int := if (feedP s l).2.bd = 0 then (((feedP s l).1 : Nat) : Int) else 0
theorem feedP_stop {s : St} (h : s.nx = 9 ∨ s.bd ≠ 0) (l : List UInt8) : feedP s l = (0, s) := by
  cases l with
  | nil => rfl
  | cons x l => rw [feedP, if_pos h]

set_option maxRecDepth 20000 in
set_option maxHeartbeats 4000000 in
theorem Feed_any {w : World} {base g : Nat} {A : Option Addr} {n c : Nat} {s : St} (hb : Body w base g A n c s) (hk : Ok s) (B : Option Addr) (m d : Nat) (l : List UInt8) (hl : Rd w 1 B m d (l.map b8)) (hm : m ≤ 1073741824) (hB : ∀ k, blk B = some k → ¬ Mine g A k) :
    Calls Tryd.prog 14 #[.pointer (some ⟨g, 0, none⟩), .slice B m d] w fun e w' => ∃ A' n' c', e = .returned (.tuple #[.int .i64 (feedN s l), .int .i64 (feedP s l).2.bd]) ∧ Body w' base g A' n' c' (finP (feedP s l).2) ∧ But (Mine g A) w w' ∧ ∀ k, blk A' = some k → blk A = some k ∨ w.heap.size ≤ k := by
  obtain ⟨c0, c1, c2, c3, c4, f0, f1, f2, f3, f4⟩ := hb.facts
  have hlen := hl.lenb
  have hnx1 := hk.nx1
  have hz : (s.nx == 0) = false := by simp; omega
  clear c1 c2 c3 f1 f2 f3
  go_enter Tryd.func14, Tryd.ntmps14
  go_wp2_with fail
  go_loopw [6] (fun i wr => ∃ (j : Nat) (A' : Option Addr) (n' c' : Nat) (s' : St), j ≤ m ∧ i = .int .i64 j ∧ Body wr base g A' n' c' s' ∧ Ok s' ∧ But (Mine g A) w wr ∧ (∀ k, blk A' = some k → blk A = some k ∨ w.heap.size ≤ k) ∧ Hid (feedP s l = ((feedP s' (l.drop j)).1 + j, (feedP s' (l.drop j)).2))) (fun i _ => m - (intOf i).toNat)
  case atStart => exact ⟨0, A, n, c, s, by omega, rfl, hb, hk, But.refl _ _, fun k h => .inl h, by simp [Hid]⟩
  case round =>
    obtain ⟨j, A', n', c', s', hj, rfl, hb', hk', hw', hlast, hH⟩ := hrel
    clear c0 c4 f0 f4
    obtain ⟨c0, c1, c2, c3, c4, f0, f1, f2, f3, f4⟩ := hb'.facts
    have hend : (¬ j < m ∨ s'.nx = 9 ∨ s'.bd ≠ 0) → feedP s l = (j, s') := by
      intro h
      rw [hH.out]
      rcases h with h | h
      · rw [List.drop_eq_nil_of_le (by omega)]
        simp [feedP]
      · rw [feedP_stop h]
        simp
    have Hend := Lib.hid hend
    clear hend
    by_cases hgo : j < m ∧ s'.nx ≠ 9 ∧ s'.bd = 0
    · obtain ⟨g1, g2, g3⟩ := hgo
      obtain ⟨x, hx, hidx, hcell, hxb⟩ := (hl.but hw' hB).byteAt eb (j : Int) j (by omega) (by omega)
      have g2' : (s'.nx != 9) = true := by simpa using g2
      have g3' : (s'.bd == 0) = true := by simpa using g3
      have hn1 := hk'.nx1
      have hn9 := hk'.nx9
      have hT := Lib.hid (take_any hb' x hn1 (by omega) hk'.num)
      have hF := Lib.hid (show feedP s' (l.drop j) = _ by rw [feedP_drop hx.out, if_neg (by omega)])
      clear hn1 hn9
      go_wp2_with fail
      refine hT.out.mono ?_
      rintro e w2 ⟨A2, n2, c2', rfl, hb2, hw2, hl2⟩
      have q4 := hb2.facts.2.2.2.2.2.2.2.2.2
      have p4 := hb2.facts.2.2.2.2.1
      have hbb := hb2.set 4 (.int .i64 (takeP s' x).2) { (takeP s' x).1 with bd := (takeP s' x).2 } rfl rfl
      clear c0 c1 c2 c3 c4 f0 f1 f2 f3 f4
      go_wp2_with fail
      go_roundw
      case rel =>
        refine ⟨j + 1, A2, n2, c2', { (takeP s' x).1 with bd := (takeP s' x).2 }, by omega, by go_num, hbb, takeP_ok hk' x g2, (hw'.trans hw2 ?_).set (a := ⟨g, 4, none⟩) _ (.inl (.inl rfl)), ?_, ?_⟩
        · intro i hi
          rcases hi with h1 | h1
          · exact .inl (.inl h1)
          · rcases hlast i h1 with h2 | h2
            · exact .inl (.inr h2)
            · exact .inr h2
        · intro i hi
          rcases hl2 i hi with h1 | h1
          · exact hlast i h1
          · exact .inr (Nat.le_trans hw'.size h1)
        · show _ = _
          rw [hH.out, hF.out]
          simp only [Nat.add_assoc, Nat.add_comm 1 j]
      case measure => simp [intOf]; omega
    · have hF := Hend.out (by omega)
      have HF := Lib.hid hF
      clear hF hH Hend
      have h3 : ¬ j < m ∨ (j < m ∧ (s'.nx != 9) = false) ∨ (j < m ∧ (s'.nx != 9) = true ∧ s'.bd ≠ 0) := by
        by_cases a1 : j < m
        · by_cases a2 : s'.nx = 9
          · exact .inr (.inl ⟨a1, by simpa using a2⟩)
          · exact .inr (.inr ⟨a1, by simpa using a2, fun a3 => hgo ⟨a1, a2, a3⟩⟩)
        · exact .inl a1
      clear hgo
      by_cases hbd : s'.bd = 0
      · have q1 : (s'.bd == 0) = true := by simpa using hbd
        have q2 : (s'.bd != 0) = false := by simpa using hbd
        have HN : Hid (feedN s l = (j : Int)) := by
          show _ = _
          unfold feedN
          rw [HF.out, if_pos hbd]
        have HP : Hid (finP s' = s') := if_pos hbd
        have Hbd := Lib.hid hbd
        clear hbd
        rcases h3 with g1 | ⟨g1, g2⟩ | ⟨g1, g2, g3⟩
        · go_wp2_with fail
          go_ret2
          rw [HN.out, HF.out]
          dsimp only
          rw [HP.out, Hbd.out]
          exact ⟨A', n', c', rfl, hb', hw', hlast⟩
        · go_wp2_with fail
          go_ret2
          rw [HN.out, HF.out]
          dsimp only
          rw [HP.out, Hbd.out]
          exact ⟨A', n', c', rfl, hb', hw', hlast⟩
        · exact absurd Hbd.out g3
      · have q1 : (s'.bd == 0) = false := by simpa using hbd
        have q2 : (s'.bd != 0) = true := by simpa using hbd
        have HN : Hid (feedN s l = 0) := by
          show _ = _
          unfold feedN
          rw [HF.out, if_neg hbd]
        have HP : Hid (finP s' = { s' with got := [] }) := if_neg hbd
        have hnil := Body.move (l := []) hb'.obj hb'.ge (Own.nil_ wr base 5 1) (by simp [blk])
        have F34 := (far (g := g) (i := 3) (j := 4) (by omega) wr (.slice none 0 0)).trans c4
        clear hbd
        rcases h3 with g1 | ⟨g1, g2⟩ | ⟨g1, g2, g3⟩
        all_goals
          go_wp2_with fail
          go_region
          all_goals
            go_wp2_with fail
            go_ret2
            rw [HN.out, HF.out]
            dsimp only
            rw [HP.out]
            exact ⟨none, 0, 0, rfl, hnil.drew, (hw'.set (a := ⟨g, 3, none⟩) _ (.inl (.inl rfl))).drew, fun k hk => by simp [blk] at hk⟩

end Go.Proofs.YthijpbakhnakeaaDoor
