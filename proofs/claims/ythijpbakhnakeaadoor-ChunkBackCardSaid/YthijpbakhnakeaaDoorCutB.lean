/-
  cofferlaw0's Cut.
-/
import Derived.Test.YthijpbakhnakeaaDoorCutA
import Derived.Test.YthijpbakhnakeaaDoorStrs
namespace Go.Proofs.YthijpbakhnakeaaDoor
open Go.RowKit

theorem Rows2.below {w w' : World} {A : Option Addr} {n c : Nat} {ll : List Row} (h : Rows2 w A n c ll) (hb : Below w.heap.size w w') : Rows2 w' A n c ll := h.keep hb
set_option maxRecDepth 20000 in
set_option maxHeartbeats 4000000 in
theorem Cut_any {w : World} (A : Option Addr) (n c : Nat) (l : List UInt8) (h : Rd w 1 A n c (l.map b8)) (A2 : Option Addr) (n2 c2 : Nat) (zs : List Int) (h2 : RdI w A2 n2 c2 zs) (hn : n ≤ 1073741824) (hn2 : n2 ≤ 1048576) :
    Calls Tryd.prog 12 #[.slice A n c, .slice A2 n2 c2] w fun e w' => ∃ L m d ll, e = .returned (.slice L m d) ∧ Own w' w.heap.size 22 1 L m d (ll.map Row.val) ∧ (∀ r ∈ ll, Rd w 1 r.A r.n r.c (r.l.map b8) ∧ 1 ≤ r.n ∧ r.n ≤ n ∧ blk r.A = blk A) ∧ flat ll = l ∧ m ≤ n2 + 1 ∧ Below w.heap.size w w' := by
  have HH := Lib.hid h
  have H2 := Lib.hid h2
  have hln := Lib.hid h.lenb
  clear h h2
  go_enter Tryd.func12, Tryd.ntmps12
  go_wp2_with fail
  go_loopw [0, 5, 6] (fun b o i wr => ∃ (j k : Nat) (A1 : Option Addr) (c1 : Nat) (L : Option Addr) (m d : Nat) (ll : List Row), j ≤ n2 ∧ k ≤ n ∧ b = .slice A1 (n - k) c1 ∧ o = .slice L m d ∧ i = .int .i64 j ∧ Hid (Rd w 1 A1 (n - k) c1 ((l.drop k).map b8)) ∧ n - k ≤ c1 ∧ c1 ≤ maxLen ∧ Hid (blk A1 = blk A) ∧
      Own wr w.heap.size 22 1 L m d (ll.map Row.val) ∧ Hid (∀ r ∈ ll, Rd w 1 r.A r.n r.c (r.l.map b8) ∧ 1 ≤ r.n ∧ r.n ≤ n ∧ blk r.A = blk A) ∧ Hid (flat ll = l.take k) ∧ m ≤ j ∧ Below w.heap.size w wr) (fun _ _ i _ => n2 - (intOf i).toNat)
  case atStart => exact ⟨0, 0, A, c, none, 0, 0, [], by omega, by omega, rfl, rfl, rfl, by simpa [Hid] using HH.out, HH.out.le, HH.out.max, rfl, Own.nil_ _ _ _ _, (show ∀ r ∈ ([] : List Row), _ from fun r hr => (List.not_mem_nil hr).elim), (show flat [] = l.take 0 from rfl), by omega, Below.refl _ _⟩
  case round =>
    obtain ⟨j, k, A1, c1, L, m, d, ll, hj, hk, rfl, rfl, rfl, hR, hc1, hc2, hbA, ho, hE, hF, hm, hb⟩ := hrel
    have fin : ∀ (wr : World) (L : Option Addr) (m d : Nat) (ll : List Row), Own wr w.heap.size 22 1 L m d (ll.map Row.val) → (∀ r ∈ ll, Rd w 1 r.A r.n r.c (r.l.map b8) ∧ 1 ≤ r.n ∧ r.n ≤ n ∧ blk r.A = blk A) → flat ll = l → m ≤ n2 + 1 → Below w.heap.size w wr →
        ∃ L' m' d' ll', Ending.returned (.slice L m d) = .returned (.slice L' m' d') ∧ Own wr w.heap.size 22 1 L' m' d' (ll'.map Row.val) ∧ (∀ r ∈ ll', Rd w 1 r.A r.n r.c (r.l.map b8) ∧ 1 ≤ r.n ∧ r.n ≤ n ∧ blk r.A = blk A) ∧ flat ll' = l ∧ m' ≤ n2 + 1 ∧ Below w.heap.size w wr :=
      fun wr L m d ll a1 a2 a3 a4 a5 => ⟨L, m, d, ll, rfl, a1, a2, a3, a4, a5⟩
    have Fin := Lib.hid fin
    clear fin
    have hml := ho.rd.len
    obtain ⟨q, hq⟩ : ∃ q, n - k = q := ⟨_, rfl⟩
    rw [hq] at hR hc1 ⊢
    have hqn : q ≤ n := by omega
    have HQ := Lib.hid hq
    have HML := Lib.hid hml
    clear hq hml
    unfold maxLen at hc2
    by_cases hgo : j < n2 ∧ 1 ≤ q
    · obtain ⟨g1, g2⟩ := hgo
      obtain ⟨z, hz, hidx, hcell, hz0, hz1⟩ := (H2.out.below hb).at ei (j : Int) j rfl g1
      obtain ⟨p, hp⟩ : ∃ p, placeP z q = p := ⟨_, rfl⟩
      have hpl := placeP_lt z q g2
      have hP := Lib.hid (fun w => Place_any z q w hz0 hz1 (by omega))
      rw [hp] at hpl hP
      clear hp
      have hs1 := run_slice_h_rd (P := Tryd.prog) (A := A1) (n := q) (c := c1) eb (kh := .i64) (p + 1) (H := (p : Int) + 1) (by omega) (by omega)
      have hs2 := run_slice_l_rd (P := Tryd.prog) (A := A1) (n := q) (c := c1) eb (kl := .i64) (p + 1) (L := (p : Int) + 1) (by omega) (by omega)
      have g1' : (j : Int) < n2 := by omega
      have g2' : (0 : Int) < q := by omega
      clear g1 g2
      go_wp2_with (first
        | (go_at_call 17; refine (hP.out _).mono ?_; rintro e w1 ⟨rfl, rfl⟩)
        | (at_builtin; refine wpList_app rfl _ _ rfl er (ho.alloc _) rfl (Rd.lit _ [_] _ 1 rfl (by unfold maxLen; omega)) rfl (by simp [Value.oneCell']) (by omega) (by unfold maxLen; omega) (by have := hb.size; simp; omega) ?_; intro L2 d2 w2 ho2 hg2 hq2))
      go_roundw
      case rel =>
        have hk2 : k + (p + 1) ≤ n := by have := HQ.out; omega
        have e1 : n - (k + (p + 1)) = q - (p + 1) := by have := HQ.out; omega
        refine ⟨j + 1, k + (p + 1), cutA A1 c1 (p + 1) 1, c1 - (p + 1), L2, m + 1, d2, ll ++ [⟨A1, p + 1, c1, (l.drop k).take (p + 1)⟩], by omega, hk2, by rw [e1], rfl, by go_num, ?_, by omega, by unfold maxLen; omega, (show _ = _ by rw [blk_cutA]; exact hbA.out), ?_, ?_, ?_, by omega, ?_⟩
        · show Rd _ _ _ _ _ _
          rw [e1]
          have := hR.out.drop_ (k := p + 1) (by omega)
          rw [List.drop_drop] at this
          exact this
        · rw [List.map_append]
          exact ho2
        · intro r hr
          rcases List.mem_append.1 hr with h | h
          · exact hE.out r h
          · obtain rfl : r = _ := by simpa using h
            refine ⟨hR.out.take_ (k := p + 1) (by omega), by dsimp only; omega, by dsimp only; omega, hbA.out⟩
        · show _ = _
          rw [flat_snoc, hF.out]
          dsimp only
          rw [← List.take_add]
        · exact (hb.alloc hb.size _).grown hg2 (by have := hb.size; simp; omega) (fun g hg => (ho.lt g hg).1)
      case measure => simp [intOf]; omega
    · by_cases hq0 : 1 ≤ q
      · have hj2 : (n2 : Int) ≤ j := by omega
        have hq' : (0 : Int) < q := by omega
        clear hgo hq0
        go_wp2_with (at_builtin; refine wpList_app rfl _ _ rfl er (ho.alloc _) rfl (Rd.lit _ [_] _ 1 rfl (by unfold maxLen; omega)) rfl (by simp [Value.oneCell']) (by omega) (by unfold maxLen; omega) (by have := hb.size; simp; omega) ?_; intro L2 d2 w2 ho2 hg2 hq2)
        go_ret
        refine Fin.out w2 L2 (m + 1) d2 (ll ++ [⟨A1, q, c1, l.drop k⟩]) (by rw [List.map_append]; exact ho2) ?_ ?_ (by omega) ((hb.alloc hb.size _).grown hg2 (by have := hb.size; simp; omega) (fun g hg => (ho.lt g hg).1))
        · intro r hr
          rcases List.mem_append.1 hr with h | h
          · exact hE.out r h
          · obtain rfl : r = _ := by simpa using h
            refine ⟨hR.out, by dsimp only; omega, hqn, hbA.out⟩
        · rw [flat_snoc, hF.out]
          dsimp only
          exact List.take_append_drop k l
      · have hq' : (q : Int) ≤ 0 := by omega
        have hkl : l.length ≤ k := by
          have := HQ.out
          have := hln.out
          omega
        have hgo' : (n2 : Int) ≤ j ∨ (j : Int) < n2 := by omega
        clear hgo hq0
        rcases hgo' with h1 | h1
        all_goals
          go_wp2_with fail
          go_ret
          refine Fin.out _ L m d ll ho hE.out ?_ (by omega) hb
          rw [hF.out, List.take_of_length_le hkl]

end Go.Proofs.YthijpbakhnakeaaDoor
