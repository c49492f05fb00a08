/-
  Joined texts of this claim's author (each began as a text of its own; each says itself what it holds).
-/
import Derived.Test.YtaopohacelmglaaDoorG09
set_option linter.unusedVariables false
set_option linter.unusedSimpArgs false

/-
  The document's answer to target: zero, May.
-/
namespace Go.Proofs.YtaopohacelmglaaDoor.Tg
open Go.RowKit

theorem zB_at {s : List UInt8} {k : Nat} (hx : s[k]? = some 0) : zB s = true := by
  unfold zB
  simpa using List.mem_of_getElem? hx
theorem zB_none {s : List UInt8} (h : ∀ (j : Nat) x, s[j]? = some x → x ≠ 0) : zB s = false := by
  cases hz : zB s
  · rfl
  · obtain ⟨j, hj⟩ := List.mem_iff_getElem?.1 (zB_yes hz)
    exact absurd rfl (h j 0 hj)

set_option maxHeartbeats 4000000 in
theorem rzero_any (s : List UInt8) (hs : s.length ≤ 1073741824) (w : World) : Calls Tryd.prog 68 #[.string ⟨s.toArray⟩] w fun e w' => e = .returned (.bool (zB s)) ∧ w' = w := by
  have hsz := size_mk s
  obtain ⟨L, hL⟩ : ∃ L, s.length = L := ⟨_, rfl⟩
  rw [hL] at hs hsz
  have HL := Lib.hid hL
  clear hL
  go_enter Tryd.func68, Tryd.ntmps68
  go_wp2_with fail
  go_loopw [3] (fun i wr => ∃ k : Nat, k ≤ L ∧ i = .int .i64 k ∧ w = wr ∧ Hid (∀ (j : Nat) x, j < k → s[j]? = some x → x ≠ 0)) (fun i _ => L - (intOf i).toNat)
  case atStart => exact ⟨0, by omega, rfl, rfl, (show ∀ (j : Nat) x, j < 0 → _ from fun j x h => absurd h (by omega))⟩
  case round =>
    obtain ⟨k, hk, rfl, rfl, hH⟩ := hrel
    by_cases hkL : k < L
    · have hx : s[k]? = some (s[k]'(by rw [HL.out]; exact hkL)) := List.getElem?_eq_getElem _
      generalize s[k]'(by rw [HL.out]; exact hkL) = x at hx
      have hi : ∀ W, (Instr.index 9 (.string ⟨s.toArray⟩) (.int .i64 (k : Int))).run Tryd.prog W = .ok (.int .u8 (x.toNat : Int)) W := fun W => run_str_at (P := Tryd.prog) Tryd.underlying9 s k x hx (kl := .i64) W
      have hk' : (k : Int) < L := by omega
      by_cases h0 : x = 0
      · subst h0
        have HE := Lib.hid (zB_at hx)
        have hi0 : ∀ W, (Instr.index 9 (.string ⟨s.toArray⟩) (.int .i64 (k : Int))).run Tryd.prog W = .ok (.int .u8 0) W := hi
        clear hx hkL hH hi
        go_wp2_with fail
        go_ret
        rw [HE.out]
        exact ⟨rfl, rfl⟩
      · have hne := ne_int (x := x) (c := 0) (by omega) h0
        have hne' : ((x.toNat : Int) == 0) = false := hne
        have HN : Hid (∀ (j : Nat) y, j < k + 1 → s[j]? = some y → y ≠ 0) := fun j y hj hg => by
          by_cases hjk : j < k
          · exact hH.out j y hjk hg
          · obtain rfl : j = k := by omega
            rw [hx] at hg
            obtain rfl := Option.some.inj hg
            exact h0
        clear hx hkL hH h0 hne
        go_wp2_with fail
        go_roundw
        case rel => exact ⟨k + 1, by omega, by go_num, by trivial, HN⟩
        case measure => simp [intOf]; omega
    · obtain rfl : k = L := by omega
      have HE := Lib.hid (zB_none fun j x hx => hH.out j x (by rw [← HL.out]; exact (List.getElem?_eq_some_iff.1 hx).1) hx)
      clear hkL hH
      go_wp2_with fail
      go_ret
      rw [HE.out]
      exact ⟨rfl, rfl⟩

set_option maxRecDepth 20000 in
set_option maxHeartbeats 8000000 in
theorem RMay_any {w : World} {A B : Option Addr} {n c m d : Nat} {P : List (List UInt8)} {Q : List Pm} (hS : Ss w A n c P) (hQ : Ps w B m d Q)
    (hp : ∀ p ∈ P, p.length ≤ 1048576) (hq : ∀ q ∈ Q, q.1.length ≤ 1048576 ∧ q.2.length ≤ 1048576) (hm : m ≤ 1048577) :
    Calls Tryd.prog 47 #[.agg (tgA A n c B m d)] w fun e w' => e = .returned (.bool (mayF P Q)) ∧ Below w.heap.size w w' := by
  have hPl : P.length = n := by have := Rd.len hS; simpa using this
  have hQl := hQ.len
  have HPL := Lib.hid hPl
  have HQL := Lib.hid hQl
  have HQ := Lib.hid hQ
  have hnil := Rd.nil hS
  have hle := Rd.le hS
  have hmx := Rd.max hS
  unfold maxLen at hmx
  clear hPl hQl
  go_enter Tryd.func47, Tryd.ntmps47
  go_upto_region 1 with (refine wpList_box rfl _ _ rfl (tgA A n c B m d) rfl ?_; intro w1 hg1 hb1 hz1)
  clear hz1
  obtain ⟨hc0, hc1⟩ := cell_tg hg1
  have hS1 := Rd.below hS hb1
  have hs1 := hb1.size
  clear hg1 hS hQ
  go_wp2_with fail
  go_loopw [3] (fun i wr => ∃ k : Nat, k ≤ n ∧ i = .int .i64 k ∧ w1 = wr ∧ Hid (∀ (j : Nat) p, j < k → P[j]? = some p → GoodP p)) (fun i _ => n - (intOf i).toNat)
  case atStart => exact ⟨0, by omega, rfl, rfl, (show ∀ (j : Nat) p, j < 0 → _ from fun j p h => absurd h (by omega))⟩
  case round =>
    obtain ⟨k, hk, rfl, rfl, hH⟩ := hrel
    by_cases hkn : k < n
    · have hx : P[k]? = some (P[k]'(by rw [HPL.out]; exact hkn)) := List.getElem?_eq_getElem _
      generalize P[k]'(by rw [HPL.out]; exact hkn) = p at hx
      have hidx := run_index_rd (P := Tryd.prog) (A := A) (n := n) (c := c) es hnil hle k hkn
      rw [Nat.mul_one] at hidx
      have hcell := Rd.cell hS1 k (strV p) (by rw [List.getElem?_map, hx]; rfl)
      unfold strV at hcell
      have hk' : (k : Int) < n := by omega
      have HZ := Lib.hid (fun W => rzero_any p (by have := hp p (List.mem_of_getElem? hx); omega) W)
      by_cases hpe : p = []
      · subst hpe
        have HE := Lib.hid (may_bad_p (Q := Q) hx (.inl rfl))
        clear hx hkn hH
        go_wp2_with fail
        go_ret
        rw [HE.out]
        exact ⟨rfl, hb1⟩
      · have hpi := ne_emp hpe
        obtain ⟨z, hz⟩ : ∃ z, zB p = z := ⟨_, rfl⟩
        rw [hz] at HZ
        cases z
        · have HN : Hid (∀ (j : Nat) q, j < k + 1 → P[j]? = some q → GoodP q) := fun j q hj hg => by
            by_cases hjk : j < k
            · exact hH.out j q hjk hg
            · obtain rfl : j = k := by omega
              rw [hx] at hg
              obtain rfl := Option.some.inj hg
              exact ⟨hpe, zB_no hz⟩
          clear hx hkn hH hpe hz
          go_wp2_with fail
          refine (HZ.out _).mono ?_
          rintro e w2 ⟨rfl, rfl⟩
          go_wp2_with fail
          go_roundw
          case rel => exact ⟨k + 1, by omega, by go_num, by trivial, HN⟩
          case measure => simp [intOf]; omega
        · have HE := Lib.hid (may_bad_p (Q := Q) hx (.inr hz))
          clear hx hkn hH hpe hz
          go_wp2_with fail
          refine (HZ.out _).mono ?_
          rintro e w2 ⟨rfl, rfl⟩
          go_wp2_with fail
          go_ret
          rw [HE.out]
          exact ⟨rfl, hb1⟩
    · obtain rfl : k = n := by omega
      have hGP : ∀ p ∈ P, GoodP p := fun p hp => by
        obtain ⟨j, hj⟩ := List.mem_iff_getElem?.1 hp
        exact hH.out j p (by rw [← HPL.out]; exact (List.getElem?_eq_some_iff.1 hj).1) hj
      have HGP := Lib.hid hGP
      have hBOX : ∀ W, Below w1.heap.size w1 W → W.cell? ⟨w.heap.size, 1, none⟩ = some (.slice B m d) := fun W hW => by
        have hlt := World.block_lt_of_cell? w1 _ hc1
        rw [← hc1]
        exact World.cell?_of_block (hW.block _ hlt)
      have HBOX := Lib.hid hBOX
      clear hkn hH hGP hBOX hS1
      go_wp2_with fail
      clear hc0 hc1
      go_loopw [4] (fun i wr => ∃ (k : Nat), k ≤ m ∧ i = .int .i64 k ∧ Below w1.heap.size w1 wr ∧ Hid (∀ (j : Nat), j < k → GoodQ Q j)) (fun i _ => m - (intOf i).toNat)
      case atStart => exact ⟨0, by omega, rfl, Below.refl _ _, (show ∀ (j : Nat), j < 0 → _ from fun j h => absurd h (by omega))⟩
      case round =>
        obtain ⟨k, hk, rfl, hb, hH⟩ := hrel
        have hbw := hb1.trans (hb.mono hs1)
        have hc1 := HBOX.out wr hb
        by_cases hkm : k < m
        · have hx : Q[k]? = some (Q[k]'(by rw [HQL.out]; exact hkm)) := List.getElem?_eq_getElem _
          generalize Q[k]'(by rw [HQL.out]; exact hkm) = q at hx
          have hQr := HQ.out.below hbw
          have hidx := fun W => hQr.idx hkm W
          obtain ⟨hq1, hq2⟩ := hq q (List.mem_of_getElem? hx)
          have hd0 := hQr.name hx
          have hd1 := hQr.value hx
          obtain ⟨x, y⟩ := q
          dsimp only at hq1 hq2 hd0 hd1
          unfold strV at hd0 hd1
          have hd1' : wr.cell? ⟨(at_ B (k * 2)).block, (at_ B (k * 2)).off + 1, none⟩ = some (.string ⟨y.toArray⟩) := by rw [show (⟨(at_ B (k * 2)).block, (at_ B (k * 2)).off + 1, none⟩ : Addr) = (at_ B (k * 2)).add 1 from rfl, at_add2]; exact hd1
          have hk' : (k : Int) < m := by omega
          have HX := Lib.hid hx
          have HBAD := Lib.hid (fun h => may_bad_q (P := P) HX.out h)
          have HZX := Lib.hid (fun W => rzero_any x (by omega) W)
          have HZY := Lib.hid (fun W => rzero_any y (by omega) W)
          clear hx hQr
          by_cases hxe : x = []
          · subst hxe
            have HE := Lib.hid (HBAD.out (.inl rfl))
            clear hkm
            go_wp2_with fail
            go_ret
            rw [HE.out]
            exact ⟨rfl, hbw⟩
          have hxi := ne_emp hxe
          obtain ⟨zx, hzx⟩ : ∃ z, zB x = z := ⟨_, rfl⟩
          obtain ⟨zy, hzy⟩ : ∃ z, zB y = z := ⟨_, rfl⟩
          rw [hzx] at HZX
          rw [hzy] at HZY
          have HZ2 : Hid ((zx = true ∨ zy = true) → mayF P Q = false) := fun h => HBAD.out (.inr (.inl (by
            unfold zB at *
            rcases h with rfl | rfl
            · simp only [List.contains_eq_mem, List.mem_append, decide_eq_true_eq] at *
              exact .inl hzx
            · simp only [List.contains_eq_mem, List.mem_append, decide_eq_true_eq] at *
              exact .inr hzy)))
          cases zx
          · cases zy
            · have hnx := zB_no hzx
              have hny := zB_no hzy
              have hfin : (∀ (j : Nat) p, j < k → Q[j]? = some p → p.1 ≠ x) → ∀ (j : Nat), j < k + 1 → GoodQ Q j := fun hd j hj => by
                by_cases hjk : j < k
                · exact hH.out j hjk
                · obtain rfl : j = k := by omega
                  intro q hq'
                  rw [HX.out] at hq'
                  obtain rfl := Option.some.inj hq'
                  exact ⟨hxe, hnx, hny, hd⟩
              have HFIN := Lib.hid hfin
              clear hxe hzx hzy hnx hny hfin HZ2
              go_wp2_with fail
              refine (HZX.out _).mono ?_
              rintro e w2 ⟨rfl, rfl⟩
              go_wp2_with fail
              refine (HZY.out _).mono ?_
              rintro e w2 ⟨rfl, rfl⟩
              go_wp2_with fail
              clear hd0 hd1 hd1' hc1
              go_loopw [5] (fun i wq => ∃ (l : Nat), l ≤ k ∧ i = .int .i64 l ∧ Below w1.heap.size w1 wq ∧ Hid (∀ (j : Nat) p, j < l → Q[j]? = some p → p.1 ≠ x)) (fun i _ => k - (intOf i).toNat)
              case atStart => exact ⟨0, by omega, rfl, hb, (show ∀ (j : Nat) p, j < 0 → _ from fun j p h => absurd h (by omega))⟩
              case round =>
                obtain ⟨l, hl, rfl, hb2, hD⟩ := hrel
                have hbq := hb1.trans (hb2.mono hs1)
                have hc1 := HBOX.out wr hb2
                have hQq := HQ.out.below hbq
                by_cases hlk : l < k
                · have hxl : Q[l]? = some (Q[l]'(by rw [HQL.out]; omega)) := List.getElem?_eq_getElem _
                  generalize Q[l]'(by rw [HQL.out]; omega) = q2 at hxl
                  have hidl := fun W => hQq.idx (show l < m by omega) W
                  have he0 := hQq.name hxl
                  have hf0 := hQq.name HX.out
                  obtain ⟨x2, y2⟩ := q2
                  dsimp only at he0 hf0
                  unfold strV at he0 hf0
                  have hl' : (l : Int) < k := by omega
                  by_cases he : x2 = x
                  · subst he
                    have HE := Lib.hid (HBAD.out (.inr (.inr ⟨l, _, hlk, hxl, rfl⟩)))
                    have heq : (x2 == x2) = true := by simp
                    clear hxl hlk hQq hkm
                    go_upto_region 14 with fail
                    go_quiet (fail)
                    have hb9 := below_drewN hbq nq
                    go_wp2_with fail
                    go_ret
                    rw [HE.out]
                    exact ⟨rfl, hb9⟩
                  · have heq : (x2 == x) = false := by simpa using he
                    have HN : Hid (∀ (j : Nat) p, j < l + 1 → Q[j]? = some p → p.1 ≠ x) := fun j p hj hg => by
                      by_cases hjl : j < l
                      · exact hD.out j p hjl hg
                      · obtain rfl : j = l := by omega
                        rw [hxl] at hg
                        obtain rfl := Option.some.inj hg
                        exact he
                    clear hxl hlk hQq hkm he
                    go_upto_region 14 with fail
                    go_quiet (fail)
                    have hb9 := below_drewN hb2 nq
                    clear hc1 he0 hf0
                    go_wp2_with fail
                    go_roundw
                    case rel => exact ⟨l + 1, by omega, by go_num, hb9, HN⟩
                    case measure => simp [intOf]; omega
                · obtain rfl : l = k := by omega
                  have HG := Lib.hid (HFIN.out hD.out)
                  clear hlk hQq
                  go_wp2_with fail
                  go_roundw
                  case rel => exact ⟨l + 1, by omega, by go_num, hb2, HG⟩
                  case measure => simp [intOf]; omega
            · have HE := Lib.hid (HZ2.out (.inr rfl))
              clear hxe hzx hzy HZ2 hkm
              go_wp2_with fail
              refine (HZX.out _).mono ?_
              rintro e w2 ⟨rfl, rfl⟩
              go_wp2_with fail
              refine (HZY.out _).mono ?_
              rintro e w2 ⟨rfl, rfl⟩
              go_wp2_with fail
              go_ret
              rw [HE.out]
              exact ⟨rfl, hbw⟩
          · have HE := Lib.hid (HZ2.out (.inl rfl))
            clear hxe hzx hzy HZ2 hkm
            go_wp2_with fail
            refine (HZX.out _).mono ?_
            rintro e w2 ⟨rfl, rfl⟩
            go_wp2_with fail
            go_ret
            rw [HE.out]
            exact ⟨rfl, hbw⟩
        · obtain rfl : k = m := by omega
          have hM : mayF P Q = true := mayF_yes ⟨HGP.out, fun j q hj => hH.out j (by rw [← HQL.out]; exact (List.getElem?_eq_some_iff.1 hj).1) q hj⟩
          have HE := Lib.hid hM
          clear hkm hM hH
          go_wp2_with fail
          go_ret
          rw [HE.out]
          exact ⟨rfl, hbw⟩

end Go.Proofs.YtaopohacelmglaaDoor.Tg
