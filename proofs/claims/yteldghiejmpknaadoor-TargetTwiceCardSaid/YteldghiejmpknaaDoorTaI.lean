/-
  Package target: query.
-/
import Derived.Test.YteldghiejmpknaaDoorTaH
namespace Go.Proofs.YteldghiejmpknaaDoor
open Go.RowKit

def Queried (s : List UInt8) (w : World) (e : Ending) (w' : World) : Prop :=
  Below w.heap.size w w' ∧ ((queryF s = none ∧ e = .returned (.tuple #[.slice none 0 0, .bool false])) ∨ ∃ Q A n c, queryF s = some Q ∧ e = .returned (.tuple #[.slice A n c, .bool true]) ∧ Own w' w.heap.size 32 2 A n c (prL Q) ∧ n ≤ s.length + 1)
theorem parF_parts (s : List UInt8) : ((cut1 61 s).2.2 = false ∧ parF s = none) ∨ ((cut1 61 s).2.2 = true ∧ partB (cut1 61 s).1 = false ∧ parF s = none) ∨ ((cut1 61 s).2.2 = true ∧ partB (cut1 61 s).1 = true ∧ partB (cut1 61 s).2.1 = false ∧ parF s = none) ∨
    ((cut1 61 s).2.2 = true ∧ partB (cut1 61 s).1 = true ∧ partB (cut1 61 s).2.1 = true ∧ partS (cut1 61 s).1 = [] ∧ parF s = none) ∨
    ((cut1 61 s).2.2 = true ∧ partB (cut1 61 s).1 = true ∧ partB (cut1 61 s).2.1 = true ∧ partS (cut1 61 s).1 ≠ [] ∧ parF s = some (partS (cut1 61 s).1, partS (cut1 61 s).2.1)) := by
  have hn := nameF_parts (cut1 61 s).1
  unfold parF
  cases hc : (cut1 61 s).2.2
  · exact .inl ⟨rfl, rfl⟩
  · simp only [if_true]
    rcases hn with ⟨h1, h2⟩ | ⟨h1, h2, h3⟩ | ⟨h1, h2, h3⟩
    · exact .inr (.inl ⟨by trivial, h1, by rw [h2]; rfl⟩)
    · by_cases hb : partB (cut1 61 s).2.1 = true
      · exact .inr (.inr (.inr (.inl ⟨by trivial, h1, hb, h2, by rw [h3]; rfl⟩)))
      · exact .inr (.inr (.inl ⟨by trivial, h1, by simpa using hb, by rw [h3]; rfl⟩))
    · have hv : ∀ t, (partB t = false ∧ partF t = none) ∨ (partB t = true ∧ partF t = some (partS t)) := fun t => by
        unfold partB partS
        cases partF t with
        | none => exact .inl ⟨rfl, rfl⟩
        | some o => exact .inr ⟨rfl, rfl⟩
      rcases hv (cut1 61 s).2.1 with ⟨v1, v2⟩ | ⟨v1, v2⟩
      · exact .inr (.inr (.inl ⟨by trivial, h1, v1, by rw [h3, v2]; rfl⟩))
      · exact .inr (.inr (.inr (.inr ⟨by trivial, h1, v1, h2, by rw [h3, v2]; rfl⟩)))

set_option maxRecDepth 20000 in
set_option maxHeartbeats 8000000 in
theorem query_any (s : List UInt8) (hs : s.length ≤ 1048576) (w : World) (hm : Mx w) : Calls Tryd.prog 22 #[.string ⟨s.toArray⟩] w (Queried s w) := by
  have HSP := Lib.hid (Split_any 38 s (by omega) w hm)
  have HCUT := Lib.hid (fun (p : List UInt8) (hp : p.length ≤ 1048576) W (hb : Below w.heap.size w W) => Cut_any 61 p (by omega) W (hm.below hb))
  obtain ⟨hpl, hpe⟩ := split1_le 38 s
  have hpf : queryF s = mapP parF (split1 38 s) := rfl
  obtain ⟨P, hP⟩ : ∃ P, split1 38 s = P := ⟨_, rfl⟩
  rw [hP] at HSP hpl hpe hpf
  have HPF := Lib.hid hpf
  obtain ⟨N, hN⟩ : ∃ N, P.length = N := ⟨_, rfl⟩
  rw [hN] at HSP hpl
  have HN := Lib.hid hN
  have hN1 : N ≤ 1048577 := by omega
  have HPL := Lib.hid hpl
  have HPE := Lib.hid (fun p hp => (Nat.le_trans (hpe p hp) (by omega) : p.length ≤ 1048576))
  clear hP hN hm hpe hpl hs hpf
  go_enter Tryd.func22, Tryd.ntmps22
  go_wp2_with fail
  refine HSP.out.mono ?_
  rintro e w1 ⟨rfl, hw1⟩
  have hrd : Rd w1 1 (some ⟨w.heap.size, 0, none⟩) N N (P.map strV) := by
    rw [hw1]
    exact Rd.lit w _ _ N (by rw [List.length_map, HN.out]) (by unfold maxLen; omega)
  have hb1 : Below w.heap.size w w1 := by rw [hw1]; exact (Below.refl _ _).alloc (Nat.le_refl _) _
  clear hw1
  obtain ⟨A1, hA1⟩ : ∃ A1, (some ⟨w.heap.size, 0, none⟩ : Option Addr) = A1 := ⟨_, rfl⟩
  rw [hA1] at hrd ⊢
  have hs1 := hb1.size
  clear hA1 HSP
  go_wp2_with fail
  go_loopw [4, 17] (fun l i wr => ∃ (k : Nat) (A : Option Addr) (n c : Nat) (o : List Pm), k ≤ N ∧ l = .slice A n c ∧ i = .int .i64 k ∧ Own wr w1.heap.size 32 2 A n c (prL o) ∧ n = k ∧ Hid (mapK parF P k o) ∧ Below w1.heap.size w1 wr) (fun _ i _ => N - (intOf i).toNat)
  case atStart => exact ⟨0, none, 0, 0, [], by omega, rfl, rfl, Own.nil_ _ _ _ _, rfl, mapK_start _ _, Below.refl _ _⟩
  case round =>
    obtain ⟨k, A, n, c, o, hk, rfl, rfl, ho, hn, hH, hb⟩ := hrel
    by_cases hkN : k < N
    · have hx : P[k]? = some (P[k]'(by rw [HN.out]; exact hkN)) := List.getElem?_eq_getElem _
      generalize P[k]'(by rw [HN.out]; exact hkN) = p at hx
      have hidx := run_index_rd (P := Tryd.prog) (A := A1) (n := N) (c := N) es hrd.nil hrd.le k hkN
      rw [Nat.mul_one] at hidx
      have hcell := (hrd.below hb).cell k (strV p) (by rw [List.getElem?_map, hx]; rfl)
      have hpl := HPE.out p (List.mem_of_getElem? hx)
      have HC := Lib.hid (HCUT.out p hpl wr (hb1.trans (hb.mono hs1)))
      have hcs := parF_parts p
      have hcl := cut1_le 61 p
      obtain ⟨⟨a, b, f⟩, hC⟩ : ∃ X, cut1 61 p = X := ⟨_, rfl⟩
      rw [hC] at HC hcs hcl
      dsimp only at HC hcs hcl
      have HA := Lib.hid (fun W => part_any a (by omega) W)
      have HB := Lib.hid (fun W => part_any b (by omega) W)
      unfold Parted at HA HB
      obtain ⟨qa, hqa⟩ : ∃ q, partS a = q := ⟨_, rfl⟩
      obtain ⟨fa, hfa⟩ : ∃ f, partB a = f := ⟨_, rfl⟩
      obtain ⟨qb, hqb⟩ : ∃ q, partS b = q := ⟨_, rfl⟩
      obtain ⟨fb, hfb⟩ : ∃ f, partB b = f := ⟨_, rfl⟩
      rw [hqa, hfa] at HA
      rw [hqb, hfb] at HB
      rw [hqa, hfa, hqb, hfb] at hcs
      have hk' : (k : Int) < N := by omega
      have hs1r := hb.size
      unfold strV at hcell
      have hbad : parF p = none → queryF s = none := fun h => HPF.out.trans (mapK_bad hH.out hx h)
      have HBAD := Lib.hid hbad
      have hgood : ∀ y, parF p = some y → mapK parF P (k + 1) (o ++ [y]) := fun y h => mapK_step hH.out hx h
      have HGOOD := Lib.hid hgood
      have HNK := Lib.hid hn
      have hn2 : n + 1 ≤ 1048578 := by omega
      clear hx hkN hqa hfa hqb hfb hH hn hbad hgood hC hcl hpl
      rcases hcs with ⟨rfl, hno⟩ | ⟨rfl, rfl, hno⟩ | ⟨rfl, rfl, rfl, hno⟩ | ⟨rfl, rfl, rfl, rfl, hno⟩ | ⟨rfl, rfl, rfl, hqe, hyes⟩
      iterate 4
        · have HE := Lib.hid (HBAD.out hno)
          clear hno
          go_wp2_with fail
          refine HC.out.mono ?_
          rintro e w2 ⟨rfl, hb2⟩
          have hb12 := hb.trans (hb2.mono hb.size)
          clear hb2
          go_wp2_with fail
          refine (HA.out _).mono ?_
          rintro e w3 ⟨rfl, hb3⟩
          have hb13 := hb12.trans (hb3.mono hb12.size)
          clear hb3
          go_wp2_with fail
          refine (HB.out _).mono ?_
          rintro e w4 ⟨rfl, hb4⟩
          have hb14 := hb1.trans ((hb13.trans (hb4.mono hb13.size)).mono hs1)
          clear hb4
          go_wp2_with fail
          go_ret2
          exact ⟨hb14, .inl ⟨HE.out, rfl⟩⟩
      have HN2 := Lib.hid (HGOOD.out _ hyes)
      have hqi := ne_emp hqe
      clear hyes hqe
      go_wp2_with fail
      refine HC.out.mono ?_
      rintro e w2 ⟨rfl, hb2⟩
      have hb12 := hb.trans (hb2.mono hb.size)
      have ho2 := ho.below hb2
      clear hb2
      go_wp2_with fail
      refine (HA.out _).mono ?_
      rintro e w3 ⟨rfl, hb3⟩
      have hb13 := hb12.trans (hb3.mono hb12.size)
      have ho3 := ho2.below hb3
      clear hb3
      go_wp2_with fail
      refine (HB.out _).mono ?_
      rintro e w4 ⟨rfl, hb4⟩
      have hb14 := hb13.trans (hb4.mono hb13.size)
      have ho4 := ho3.below hb4
      have hs14 := hb14.size
      clear hb4
      go_wp2_with (first
        | (refine wpList_litP (u := qa) (v := qb) rfl rfl rfl ?_; intro w5 hw5; have hr5 := litP_own hw5 ho4; have hl5 := litP_rd hw5; have hb5 := litP_below hw5 hb14 hs14; have hs5 := hb5.size; clear hw5)
        | (at_builtin; refine wpList_app rfl _ _ rfl ep hr5 rfl hl5 rfl (prL_one _) (by omega) (by unfold maxLen; omega) hs5 ?_; intro A6 c6 w6 ho6 hg6 hq6; have hb6 := below_apps hb5 (Nat.le_refl _) hr5 hg6))
      have ho7 : Own w6 w1.heap.size 32 2 A6 (n + 1) c6 (prL (o ++ [(qa, qb)])) := by
        rw [prL_app]
        exact ho6
      go_roundw
      case rel => exact ⟨k + 1, A6, n + 1, c6, o ++ [(qa, qb)], by omega, rfl, by go_num, ho7, by rw [HNK.out], HN2, hb6⟩
      case measure => simp [intOf]; omega
    · obtain rfl : k = N := by omega
      have hend : mapP parF P = some o := mapK_end (by rw [HN.out]; exact hH.out)
      have HE := Lib.hid (HPF.out.trans hend)
      clear hkN hend hH
      go_wp2_with fail
      go_ret2
      exact ⟨hb1.trans (hb.mono hs1), .inr ⟨o, A, n, c, HE.out, rfl, ho.mono hs1, by have := HPL.out; omega⟩⟩

end Go.Proofs.YteldghiejmpknaaDoor
