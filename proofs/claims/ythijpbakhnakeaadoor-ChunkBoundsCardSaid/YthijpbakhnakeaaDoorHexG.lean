/-
  Package chunk: Chunks.
-/
import Derived.Test.YthijpbakhnakeaaDoorHexE
import Derived.Test.YthijpbakhnakeaaDoorLawA
namespace Go.Proofs.YthijpbakhnakeaaDoor
open Go.RowKit

theorem hex0_le8 (v : Nat) (h : v < 4294967296) : (hex0 v).length ≤ 8 := hex0_len 8 v (by omega)
theorem two_b8 : [Value.int .u8 13, Value.int .u8 10] = [(13 : UInt8), 10].map b8 := rfl
theorem five_b8 : [Value.int .u8 48, Value.int .u8 13, Value.int .u8 10, Value.int .u8 13, Value.int .u8 10] = [(48 : UInt8), 13, 10, 13, 10].map b8 := rfl
theorem chunksL_len (k : Nat) (hk : 1 ≤ k) : ∀ (f : Nat) (l : List UInt8), l.length < 4294967296 → (chunksL k f l).length ≤ 13 * l.length + 5
  | 0, l, _ => by simp [chunksL]
  | f + 1, l, hl => by
    by_cases h : l = []
    · subst h
      simp [chunksL]
    · have hp := List.length_pos_iff.2 h
      obtain ⟨m, hm⟩ : ∃ m, min k l.length = m := ⟨_, rfl⟩
      have h8 := hex0_le8 m (by omega)
      have ih := chunksL_len k hk f (l.drop m) (by rw [List.length_drop]; omega)
      rw [chunksL_step h, hm]
      simp only [List.length_append, List.length_cons, List.length_nil, List.length_take, List.length_drop] at ih ⊢
      omega

/-- How far the writing of chunks is: o is written, and from place k on it is to be written still. -/
def chunkAt (K n : Nat) (l : List UInt8) (k : Nat) (o : List UInt8) : Prop := ∃ f, n - k ≤ f ∧ chunksL K n l = o ++ chunksL K f (l.drop k)
theorem chunkAt_start (K n : Nat) (l : List UInt8) : chunkAt K n l 0 [] := ⟨n, by omega, rfl⟩
theorem chunkAt_step {K n : Nat} {l o : List UInt8} {k m : Nat} (h : chunkAt K n l k o) (hK : 1 ≤ K) (hl : l.length = n) (hk : k < n) (hm : min K (n - k) = m) :
    chunkAt K n l (k + m) (o ++ hex0 m ++ [13, 10] ++ (l.drop k).take m ++ [13, 10]) := by
  obtain ⟨f, hf, h⟩ := h
  obtain ⟨f', rfl⟩ : ∃ f', f = f' + 1 := ⟨f - 1, by omega⟩
  have hd : (l.drop k).length = n - k := by rw [List.length_drop, hl]
  have hne : l.drop k ≠ [] := by
    intro e
    rw [e] at hd
    simp at hd
    omega
  refine ⟨f', by omega, ?_⟩
  rw [h, chunksL_step hne, hd, hm, List.drop_drop]
  simp only [List.append_assoc]
theorem chunkAt_end {K n : Nat} {l o : List UInt8} {k : Nat} (h : chunkAt K n l k o) (hl : l.length = n) (hk : n ≤ k) : chunksL K n l = o ++ [48, 13, 10, 13, 10] := by
  obtain ⟨f, hf, h⟩ := h
  rw [h, List.drop_eq_nil_of_le (by omega), chunksL_nil]

theorem below_chain {a b c : World} (h1 : Below a.heap.size a b) (h2 : Below b.heap.size b c) : Below a.heap.size a c := h1.trans (h2.mono h1.size)

set_option maxRecDepth 20000 in
set_option maxHeartbeats 4000000 in
theorem Chunks_nat {w : World} (A : Option Addr) (n c : Nat) (l : List UInt8) (h : Rd w 1 A n c (l.map b8)) (hn : n ≤ 65536) (sz : Int) (K : Nat) (hK : (K : Int) = max sz 1) (ht : HTab w) :
    Calls Tryd.prog 8 #[.slice A n c, .int .i64 sz] w fun e w' => ∃ A' n' c', e = .returned (.slice A' n' c') ∧ Own w' w.heap.size 5 1 A' n' c' ((chunksL K n l).map b8) ∧ Below w.heap.size w w' := by
  have HH := Lib.hid h
  have HT := Lib.hid (fun W (hb : Below w.heap.size w W) => ht.below hb)
  have hln := Lib.hid h.lenb
  have hK1 : 1 ≤ K := by omega
  have hcase : sz = (K : Int) ∨ (sz < 1 ∧ (1 : Int) = (K : Int)) := by omega
  clear h ht hK
  have hfin : ∀ (wr : World) (L : Option Addr) (m d : Nat) (o : List UInt8), Own wr w.heap.size 5 1 L m d ((o ++ [48, 13, 10, 13, 10]).map b8) → chunksL K n l = o ++ [48, 13, 10, 13, 10] → Below w.heap.size w wr →
      ∃ A' n' c', Ending.returned (.slice L m d) = .returned (.slice A' n' c') ∧ Own wr w.heap.size 5 1 A' n' c' ((chunksL K n l).map b8) ∧ Below w.heap.size w wr := fun wr L m d o h1 h2 h3 => ⟨L, m, d, rfl, by rw [h2]; exact h1, h3⟩
  have Fin := Lib.hid hfin
  clear hfin
  rcases hcase with rfl | ⟨hs, hK2⟩
  all_goals
    try have HK2 := Lib.hid hK2
    try clear hK2
    go_enter Tryd.func8, Tryd.ntmps8
    go_wp2_with fail
    try rw [HK2.out]
    go_loopw [0, 5] (fun s o wr => ∃ (k : Nat) (A1 : Option Addr) (c1 : Nat) (L : Option Addr) (m d : Nat) (ol : List UInt8), k ≤ n ∧ s = .slice A1 (n - k) c1 ∧ o = .slice L m d ∧ Hid (Rd w 1 A1 (n - k) c1 ((l.drop k).map b8)) ∧ n - k ≤ c1 ∧ c1 ≤ maxLen ∧
      Own wr w.heap.size 5 1 L m d (ol.map b8) ∧ Hid (chunkAt K n l k ol) ∧ m ≤ 13 * k ∧ Below w.heap.size w wr) (fun s _ _ => match s with | .slice _ q _ => q | _ => 0)
    case atStart => exact ⟨0, A, c, none, 0, 0, [], by omega, rfl, rfl, by simpa [Hid] using HH.out, HH.out.le, HH.out.max, Own.nil_ _ _ _ _, chunkAt_start K n l, by omega, Below.refl _ _⟩
    case round =>
      obtain ⟨k, A1, c1, L, m, d, ol, hk, rfl, rfl, hR, hc1, hc2, ho, hC, hm, hb⟩ := hrel
      obtain ⟨q, hq⟩ : ∃ q, n - k = q := ⟨_, rfl⟩
      rw [hq] at hR hc1 ⊢
      have hqn : q ≤ n := by omega
      have HQ := Lib.hid hq
      have hsz := hb.size
      unfold maxLen at hc2
      clear hq
      by_cases hgo : 1 ≤ q
      · have hgo' : (0 : Int) < q := by omega
        obtain ⟨M, hM⟩ : ∃ M, min K q = M := ⟨_, rfl⟩
        have hM1 : 1 ≤ M := by omega
        have hMq : M ≤ q := by omega
        have hMn : M < 4294967296 := by omega
        have hmin : (K : Int) ≤ q ∧ M = K ∨ (q : Int) < K ∧ M = q := by omega
        have HM := Lib.hid hM
        have HA := Lib.hid (AppendInt_16 ho hsz (by omega) M hM1 hMn (HT.out _ hb))
        have h8 := hex0_le8 M hMn
        obtain ⟨X, hX⟩ : ∃ X, (hex0 M).length = X := ⟨_, rfl⟩
        rw [hX] at h8 HA
        have HX := Lib.hid hX
        obtain ⟨Q2, hQ2⟩ : ∃ Q2, q - M = Q2 := ⟨_, rfl⟩
        have hs1 := run_slice_h_rd (P := Tryd.prog) (A := A1) (n := q) (c := c1) eb (kh := .i64) M (H := (M : Int)) (by omega) (by omega)
        have hs2 := run_slice_l_rd (P := Tryd.prog) (A := A1) (n := q) (c := c1) eb (kl := .i64) M (L := (M : Int)) (by omega) (by omega)
        rw [hQ2] at hs2
        have HQ2 := Lib.hid hQ2
        clear hM hX hgo hQ2
        rcases hmin with ⟨hm1, rfl⟩ | ⟨hm1, rfl⟩
        all_goals
          go_wp2_with fail
          refine HA.out.mono ?_
          rintro e w1 ⟨A2, c2, rfl, ho2, hb2⟩
          have hb2' := hb.trans hb2
          go_wp2_with (first
            | (at_builtin; refine wpList_app rfl _ _ rfl eb (ho2.alloc _) rfl (Rd.lit _ [_, _] _ 2 rfl (by decide)) rfl (by simp [Value.oneCell']) (by omega) (by unfold maxLen; omega) (by have := hb2'.size; simp; omega) ?_; intro A3 c3 w3 ho3 hg3 hq3; rw [two_b8, ← List.map_append] at ho3; have hb3 := below_app hb2' (Nat.le_refl _) ho2 hg3)
            | (at_builtin; refine wpList_app rfl _ _ rfl eb ho3 rfl ((hR.out.below hb3).take_ hMq) rfl (b8_one _) (by omega) (by unfold maxLen; omega) (by have := hb3.size; omega) ?_; intro A4 c4 w4 ho4 hg4 hq4; rw [← List.map_append] at ho4; have hb4 := below_apps hb3 (Nat.le_refl _) ho3 hg4)
            | (at_builtin; refine wpList_app rfl _ _ rfl eb (ho4.alloc _) rfl (Rd.lit _ [_, _] _ 2 rfl (by decide)) rfl (by simp [Value.oneCell']) (by omega) (by unfold maxLen; omega) (by have := hb4.size; simp; omega) ?_; intro A5 c5 w5 ho5 hg5 hq5; rw [two_b8, ← List.map_append] at ho5; have hb5 := below_app hb4 (Nat.le_refl _) ho4 hg5))
          go_roundw
          case rel =>
            have hst := chunkAt_step hC.out hK1 hln.out (m := M) (by have := HQ.out; omega) (by rw [HQ.out]; exact HM.out)
            refine ⟨k + M, cutA A1 c1 M 1, c1 - M, A5, _, c5, _, by have := HQ.out; omega, ?_, rfl, ?_, ?_, by unfold maxLen; omega, ho5, hst, ?_, hb5⟩
            · have e1 : n - (k + M) = Q2 := by have := HQ.out; have := HQ2.out; omega
              rw [e1]
            · have e1 : n - (k + M) = n - k - M := by omega
              show Rd _ _ _ _ _ _
              rw [e1, HQ.out]
              have := hR.out.drop_ (k := M) (by omega)
              rw [List.drop_drop] at this
              exact this
            · have := HQ.out
              omega
            · have := HQ.out
              omega
          case measure =>
            have := HQ2.out
            simp
            omega
      · obtain rfl : q = 0 := by omega
        have hend := chunkAt_end hC.out hln.out (by have := HQ.out; omega)
        have HE := Lib.hid hend
        clear hend hgo
        go_wp2_with (at_builtin; refine wpList_app rfl _ _ rfl eb (ho.alloc _) rfl (Rd.lit _ [_, _, _, _, _] _ 5 rfl (by decide)) rfl (by simp [Value.oneCell']) (by omega) (by unfold maxLen; omega) (by have := hb.size; simp; omega) ?_; intro A3 c3 w3 ho3 hg3 hq3; rw [five_b8, ← List.map_append] at ho3; have hb3 := below_app hb (Nat.le_refl _) ho hg3)
        go_ret
        exact Fin.out _ _ _ _ _ ho3 HE.out hb3
theorem Chunks_any {w : World} (A : Option Addr) (n c : Nat) (l : List UInt8) (h : Rd w 1 A n c (l.map b8)) (hn : n ≤ 65536) (sz : Int) (ht : HTab w) :
    Calls Tryd.prog 8 #[.slice A n c, .int .i64 sz] w fun e w' => ∃ A' n' c', e = .returned (.slice A' n' c') ∧ Own w' w.heap.size 5 1 A' n' c' ((chunksL (max sz 1).toNat n l).map b8) ∧ Below w.heap.size w w' :=
  Chunks_nat A n c l h hn sz _ (Int.toNat_of_nonneg (by omega)) ht

end Go.Proofs.YthijpbakhnakeaaDoor
