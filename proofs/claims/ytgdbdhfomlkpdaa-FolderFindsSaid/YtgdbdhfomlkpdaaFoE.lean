/-
  Package folder: the document's May.
-/
import Derived.Test.YtgdbdhfomlkpdaaFoC
import Derived.Test.YtgdbdhfomlkpdaaFoD
namespace Go.Proofs.Ytgdbdhfomlkpdaa
open Go.RowKit

theorem kind_no {kd sz : Int} (h : kd < 1 ∨ 2 < kd) : (kd == 1 || (kd == 2 && sz == 0)) = false := by
  have e1 : (kd == 1) = false := by
    simp
    omega
  have e2 : (kd == 2) = false := by
    simp
    omega
  rw [e1, e2]
  rfl

set_option maxRecDepth 20000 in
set_option maxHeartbeats 16000000 in
theorem RMay_any {w : World} {A : Option Addr} {n c : Nat} {l : List It} (h : Its w A n c l) :
    Calls Try.prog 14 #[.slice A n c] w fun e w' => e = .returned (.bool (mayL l)) ∧ Below w.heap.size w w' := by
  have hl := h.len
  by_cases h64 : (64 : Int) < n
  · have HN := Lib.hid (mayL_long (l := l) (by omega))
    clear hl
    go_enter Try.func14, Try.ntmps14
    go_wp2_with fail
    go_ret
    rw [HN.out]
    exact ⟨rfl, Below.refl _ _⟩
  have h64' : (n : Int) ≤ 64 := by omega
  clear h64
  have HL := Lib.hid hl
  clear hl
  go_enter Try.func14, Try.ntmps14
  go_wp2_with fail
  go_loopw [3] (fun i wr => ∃ k : Nat, k ≤ n ∧ i = .int .i64 k ∧ Below w.heap.size w wr ∧ Hid (∀ j, j < k → okAt l j = true)) (fun i _ => n - (intOf i).toNat)
  case atStart => exact ⟨0, by omega, rfl, Below.refl _ _, (show ∀ j, j < 0 → _ from fun j h => absurd h (Nat.not_lt_zero j))⟩
  case round =>
    obtain ⟨k, hk, rfl, hb, hH⟩ := hrel
    by_cases hlt : k < n
    · have hr := h.below hb
      have hB := hb.size
      obtain ⟨⟨nm, kd, id, sz⟩, hx, hok, hidx⟩ := hr.at (k : Int) k rfl hlt
      have hld := hr.load hx.out
      have hlt2 : k < l.length := by rw [HL.out]; exact hlt
      have HLT := Lib.hid hlt2
      clear hlt2
      go_wp2_with (first
        | (refine wpList_load_run (by rfl) _ _ rfl (at_ A (k * 35)) rfl _ hld ?_)
        | (refine wpList_alloc_zero rfl _ rfl (itA itZ) zero_it ?_; intro w1 hg1 hb1 hz1)
        | (refine wpList_store_all rfl _ _ _ rfl wr.heap.size rfl _ _ _ (by rfl) hg1 (size_it hok) (itA_same itZ_ok hok) itA_one ?_; intro w2 hg2 hgr2 hz2; have hB2 : ItB w2 wr.heap.size _ := ⟨hok, hg2⟩; have p1 := hB2.name; have p2 := hB2.kind; have p3 := hB2.size))
      have hbr2 : Below wr.heap.size wr w2 := hb1.grown hgr2 hb1.size (fun g hg => by injection hg with hg; omega)
      have hb2 := hb.trans (hbr2.mono hB)
      have hr2 := hr.below hbr2
      clear hld hz1 hz2 hg1 hgr2 hg2 hB2 hb1
      clear hr hbr2 hb
      have hc := fun W => (RMayName_any nm (by have := hok.nm; unfold maxLen at this; dsimp only at this; omega) W).mono fun (_ : Ending) (_ : World) ⟨h, e⟩ => (⟨h, e.symm⟩ : _ ∧ _ = W)
      have HC := Lib.hid hc
      clear hc
      by_cases hN : mayN nm = false
      · rw [hN] at HC
        have HN := Lib.hid (mayL_no (l := l) HLT.out (okAt_name hx.out hN))
        clear hN hH
        go_wp2_with fail
        go_quiet ((go_at_call 22; exact Calls.quiet_of_same (HC.out _)))
        have hbk := below_drewN hb2 nq
        clear hb2
        go_wp2_with fail
        go_ret
        rw [HN.out]
        exact ⟨rfl, hbk⟩
      have hN' : mayN nm = true := by simpa using hN
      rw [hN'] at HC
      have HNM := Lib.hid hN'
      clear hN hN'
      by_cases h1 : kd < 1
      · have HN := Lib.hid (mayL_no (l := l) HLT.out (okAt_kind hx.out (kind_no (by dsimp only; omega))))
        clear hH
        go_wp2_with fail
        go_quiet ((go_at_call 22; exact Calls.quiet_of_same (HC.out _)))
        have hbk := below_drewN hb2 nq
        clear hb2
        go_wp2_with fail
        go_ret
        rw [HN.out]
        exact ⟨rfl, hbk⟩
      have h1' : 1 ≤ kd := by omega
      have g1 : decide (kd < 1) = false := decide_eq_false h1
      clear h1
      by_cases h2 : 2 < kd
      · have HN := Lib.hid (mayL_no (l := l) HLT.out (okAt_kind hx.out (kind_no (by dsimp only; omega))))
        have g2 : decide (2 < kd) = true := decide_eq_true h2
        clear h2 h1' hH
        go_wp2_with fail
        go_quiet ((go_at_call 22; exact Calls.quiet_of_same (HC.out _)))
        have hbk := below_drewN hb2 nq
        clear hb2
        go_wp2_with fail
        go_ret
        rw [HN.out]
        exact ⟨rfl, hbk⟩
      have h2' : kd ≤ 2 := by omega
      have g2 : decide (2 < kd) = false := decide_eq_false h2
      clear h2
      by_cases hs : sz < 0
      · have HN := Lib.hid (mayL_no (l := l) HLT.out (okAt_size hx.out hs))
        have g3 : decide (sz < 0) = true := decide_eq_true hs
        clear hs h1' h2' hH
        go_wp2_with fail
        go_quiet ((go_at_call 22; exact Calls.quiet_of_same (HC.out _)))
        have hbk := below_drewN hb2 nq
        clear hb2
        go_wp2_with fail
        go_ret
        rw [HN.out]
        exact ⟨rfl, hbk⟩
      have hs' : 0 ≤ sz := by omega
      have hs2 : decide (sz < 0) = false := decide_eq_false hs
      clear hs
      by_cases k2 : kd = 2
      · subst k2
        by_cases z : sz = 0
        · subst z
          have z2 : ((0 : Int) != 0) = false := rfl
          by_cases hk0 : k = 0
          · subst hk0
            have HS : Hid (∀ j, j < 0 + 1 → okAt l j = true) := by
              show ∀ _, _
              intro j hj
              obtain rfl : j = 0 := by omega
              exact okAt_yes hx.out HNM.out hs' (by rfl) (fun h => absurd rfl h)
            clear hH HNM
            go_wp2_with fail
            go_quiet ((go_at_call 22; exact Calls.quiet_of_same (HC.out _)))
            have hbk := below_drewN hb2 nq
            clear hb2
            go_wp2_with fail
            go_roundw
            case rel => exact ⟨0 + 1, by omega, by go_num, hbk, HS.out⟩
            case measure => simp [intOf]; omega
          · obtain ⟨i, rfl⟩ : ∃ i, k = i + 1 := ⟨k - 1, by omega⟩
            obtain ⟨⟨nm2, kd2, id2, sz2⟩, hy, _, hidy⟩ := hr2.at (i : Int) i rfl (by omega)
            have py := hr2.name hy.out
            dsimp only at py
            have hw1 : IntKind.i64.wrap (i : Int) = i := IntWalk.i64_in _ (by omega)
            have hi0 : (0 : Int) < (i : Int) + 1 := by omega
            have hi1 : (i : Int) < n := by omega
            by_cases hL : lessS nm2 nm = false
            · have HN := Lib.hid (mayL_no (l := l) HLT.out (okAt_order hx.out (by omega) (by simpa using hy.out) hL))
              have hL2 : Op.bytesLess nm2.toList nm.toList = false := hL
              clear hL hH hx hy
              go_wp2_with fail
              go_quiet ((go_at_call 22; exact Calls.quiet_of_same (HC.out _)))
              have hbk := below_drewN hb2 nq
              clear hb2
              go_wp2_with fail
              go_ret
              rw [HN.out]
              exact ⟨rfl, hbk⟩
            have hL' : lessS nm2 nm = true := by simpa using hL
            have HS : Hid (∀ j, j < i + 1 + 1 → okAt l j = true) := by
              show ∀ _, _
              intro j hj
              by_cases e : j = i + 1
              · subst e
                refine okAt_yes hx.out HNM.out hs' (by rfl) (fun _ y hy2 => ?_)
                obtain rfl := Option.some.inj (hy.out.symm.trans (by simpa using hy2))
                exact hL'
              · exact hH.out j (by omega)
            have hL2 : Op.bytesLess nm2.toList nm.toList = true := hL'
            clear hL hL' hH HNM
            go_wp2_with fail
            go_quiet ((go_at_call 22; exact Calls.quiet_of_same (HC.out _)))
            have hbk := below_drewN hb2 nq
            clear hb2
            go_wp2_with fail
            go_roundw
            case rel => exact ⟨i + 1 + 1, by omega, by go_num, hbk, HS.out⟩
            case measure => simp [intOf]; omega
        · have z' : (sz != 0) = true := by simpa using z
          have HN := Lib.hid (mayL_no (l := l) HLT.out (okAt_kind hx.out (by simpa using z)))
          clear z hH
          go_wp2_with fail
          go_quiet ((go_at_call 22; exact Calls.quiet_of_same (HC.out _)))
          have hbk := below_drewN hb2 nq
          clear hb2
          go_wp2_with fail
          go_ret
          rw [HN.out]
          exact ⟨rfl, hbk⟩
      · obtain rfl : kd = 1 := by omega
        clear k2
        by_cases hk0 : k = 0
        · subst hk0
          have HS : Hid (∀ j, j < 0 + 1 → okAt l j = true) := by
            show ∀ _, _
            intro j hj
            obtain rfl : j = 0 := by omega
            exact okAt_yes hx.out HNM.out hs' (by rfl) (fun h => absurd rfl h)
          clear hH HNM
          go_wp2_with fail
          go_quiet ((go_at_call 22; exact Calls.quiet_of_same (HC.out _)))
          have hbk := below_drewN hb2 nq
          clear hb2
          go_wp2_with fail
          go_roundw
          case rel => exact ⟨0 + 1, by omega, by go_num, hbk, HS.out⟩
          case measure => simp [intOf]; omega
        · obtain ⟨i, rfl⟩ : ∃ i, k = i + 1 := ⟨k - 1, by omega⟩
          obtain ⟨⟨nm2, kd2, id2, sz2⟩, hy, _, hidy⟩ := hr2.at (i : Int) i rfl (by omega)
          have py := hr2.name hy.out
          dsimp only at py
          have hw1 : IntKind.i64.wrap (i : Int) = i := IntWalk.i64_in _ (by omega)
          have hi0 : (0 : Int) < (i : Int) + 1 := by omega
          have hi1 : (i : Int) < n := by omega
          by_cases hL : lessS nm2 nm = false
          · have HN := Lib.hid (mayL_no (l := l) HLT.out (okAt_order hx.out (by omega) (by simpa using hy.out) hL))
            have hL2 : Op.bytesLess nm2.toList nm.toList = false := hL
            clear hL hH hx hy
            go_wp2_with fail
            go_quiet ((go_at_call 22; exact Calls.quiet_of_same (HC.out _)))
            have hbk := below_drewN hb2 nq
            clear hb2
            go_wp2_with fail
            go_ret
            rw [HN.out]
            exact ⟨rfl, hbk⟩
          have hL' : lessS nm2 nm = true := by simpa using hL
          have HS : Hid (∀ j, j < i + 1 + 1 → okAt l j = true) := by
            show ∀ _, _
            intro j hj
            by_cases e : j = i + 1
            · subst e
              refine okAt_yes hx.out HNM.out hs' (by rfl) (fun _ y hy2 => ?_)
              obtain rfl := Option.some.inj (hy.out.symm.trans (by simpa using hy2))
              exact hL'
            · exact hH.out j (by omega)
          have hL2 : Op.bytesLess nm2.toList nm.toList = true := hL'
          clear hL hL' hH HNM
          go_wp2_with fail
          go_quiet ((go_at_call 22; exact Calls.quiet_of_same (HC.out _)))
          have hbk := below_drewN hb2 nq
          clear hb2
          go_wp2_with fail
          go_roundw
          case rel => exact ⟨i + 1 + 1, by omega, by go_num, hbk, HS.out⟩
          case measure => simp [intOf]; omega
    · have hk' : k = n := by omega
      subst hk'
      have HY := Lib.hid (mayL_yes (l := l) (by rw [HL.out]; omega) (fun j hj => hH.out j (by rw [← HL.out]; exact hj)))
      clear hH
      go_wp2_with fail
      go_ret
      rw [HY.out]
      exact ⟨rfl, hb⟩

end Go.Proofs.Ytgdbdhfomlkpdaa
