/-
  Package folder: Take.
-/
import Derived.Test.YtgdbdhfomlkpdaaFoJ
import Derived.Test.YtgdbdhfomlkpdaaFoK
import Derived.Test.YtgdbdhfomlkpdaaShelf
namespace Go.Proofs.Ytgdbdhfomlkpdaa
open Go.RowKit

theorem pre_form (l : List UInt8) : Lib.hasPrefix l [68, 49] = decide (l.take 2 = [68, 49]) := by
  unfold Lib.hasPrefix
  match l with
  | [] => rfl
  | [a] => simp [List.isPrefixOf]
  | a :: b :: l =>
    simp only [List.isPrefixOf, List.take_succ_cons, List.take_zero, Bool.and_true, List.cons.injEq, and_true]
    rw [Bool.eq_iff_iff]
    simp only [Bool.and_eq_true, beq_iff_eq, decide_eq_true_eq]
    constructor
    · rintro ⟨rfl, rfl⟩
      exact ⟨rfl, rfl⟩
    · rintro ⟨rfl, rfl⟩
      exact ⟨rfl, rfl⟩
theorem HasForm (l : List UInt8) (w : World) : Calls Try.prog 30 #[.string ⟨l.toArray⟩, .string ⟨#[68, 49]⟩] w fun e w' => e = .returned (.bool (decide (l.take 2 = [68, 49]))) ∧ w = w' := by
  refine (Try.strings_HasPrefix ⟨l.toArray⟩ ⟨#[68, 49]⟩ w).mono ?_
  rintro e w' ⟨rfl, rfl⟩
  exact ⟨by rw [← pre_form], rfl⟩

theorem itP_len {l q : List UInt8} {x : It} (h : itP l = some (x, q)) : q.length ≤ l.length := by
  rcases l with _ | ⟨k, r⟩
  · simp [itP] at h
  · simp only [itP] at h
    split at h
    · cases h
    · split at h
      · cases h
      · split at h
        · cases h
        · injection h with h
          injection h with _ h
          rw [← h]
          simp only [List.length_drop, List.length_cons]
          omega
/-- What Take hands back. -/
def TakePost (l : List UInt8) (w : World) (e : Ending) (w' : World) : Prop :=
  ∃ A n c, e = .returned (.tuple #[.slice A n c, .int .i64 (takeF l).2]) ∧ OwnI w' w.heap.size A n c (takeF l).1 ∧ Below w.heap.size w w'
theorem takeF_fail {l : List UInt8} {N k : Nat} (h1 : ¬ (4000 < l.length ∨ l.take 2 ≠ [68, 49])) (h : tcR (l.drop 2) = (N, k, 0)) (h64 : N ≤ 64) (hg : goI N [] ((l.drop 2).drop k) = none) : takeF l = ([], 4) := by
  rw [takeF_go h1 h h64, hg]
theorem takeF_bad {l r : List UInt8} {N k : Nat} {its : List It} (h1 : ¬ (4000 < l.length ∨ l.take 2 ≠ [68, 49])) (h : tcR (l.drop 2) = (N, k, 0)) (h64 : N ≤ 64) (hg : goI N [] ((l.drop 2).drop k) = some (its, r)) (hb : r ≠ [] ∨ mayL its = false) : takeF l = ([], 4) := by
  rw [takeF_go h1 h h64, hg]
  exact if_pos hb
theorem takeF_yes {l r : List UInt8} {N k : Nat} {its : List It} (h1 : ¬ (4000 < l.length ∨ l.take 2 ≠ [68, 49])) (h : tcR (l.drop 2) = (N, k, 0)) (h64 : N ≤ 64) (hg : goI N [] ((l.drop 2).drop k) = some (its, r)) (hb : ¬ (r ≠ [] ∨ mayL its = false)) : takeF l = (its, 0) := by
  rw [takeF_go h1 h h64, hg]
  exact if_neg hb

set_option maxRecDepth 20000 in
set_option maxHeartbeats 4000000 in
theorem Take_any (A : Option Addr) (n c : Nat) (l : List UInt8) (w : World) (h : Rd w 1 A n c (l.map b8)) (hn : n ≤ 1073741824) : Calls Try.prog 18 #[.slice A n c] w (TakePost l w) := by
  have hln := h.lenb
  have hnc := h.le
  by_cases h4 : (4000 : Int) < n
  · have HT := Lib.hid (takeF_no1 (l := l) (.inl (by omega)))
    clear hln hnc
    go_enter Try.func18, Try.ntmps18
    go_wp2_with fail
    go_ret2
    refine ⟨none, 0, 0, ?_, ?_, Below.refl _ _⟩
    · rw [HT.out]
      rfl
    · rw [HT.out]
      exact OwnI.nil_ _ _
  have h4' : (n : Int) ≤ 4000 := by omega
  have hs := str_rd h
  by_cases hp : l.take 2 = [68, 49]
  · have hH := HasForm l
    rw [decide_eq_true hp] at hH
    have HH := Lib.hid hH
    have hn2 : 2 ≤ n := by
      have := congrArg List.length hp
      rw [List.length_take] at this
      simp at this
      omega
    have hlA : ∀ q, blk A = some q → q < w.heap.size := fun q hq => by
      have hl0 : l[0]? = some (l[0]'(by omega)) := List.getElem?_eq_getElem (by omega)
      have h1 := World.block_lt_of_cell? w _ (h.cell 0 (b8 (l[0]'(by omega))) (by rw [List.getElem?_map, hl0]; rfl))
      rwa [at_block A 0 q hq] at h1
    have hh1 : ¬ (4000 < l.length ∨ l.take 2 ≠ [68, 49]) := fun hc => by
      rcases hc with hc | hc
      · omega
      · exact hc hp
    have hsl1 := run_slice_l_rd (P := Try.prog) (A := A) (n := n) (c := c) eb (kl := .i64) 2 (L := 2) rfl hn2
    have hd := h.drop_ (k := 2) hn2
    have hHC := TakeCount_any _ (n - 2) (c - 2) (l.drop 2) _ hd (by omega)
    obtain ⟨N, k, E, hTC⟩ : ∃ N k E, tcR (l.drop 2) = (N, k, E) := ⟨_, _, _, rfl⟩
    have htc := tc_le (l.drop 2)
    rw [hTC] at htc hHC
    dsimp only at htc hHC
    obtain ⟨hk, hN, _, _⟩ := htc
    have hkn : k ≤ n - 2 := by have := hd.lenb; omega
    have HC := Lib.hid hHC
    have HTC := Lib.hid hTC
    have HH1 := Lib.hid hh1
    have hN0 : (0 : Int) ≤ N := by omega
    have hN1 : (N : Int) ≤ 18446744073709551615 := by omega
    clear hh1 hHC hTC hH hp hk hN h4 hln
    by_cases hE : E = 0
    · subst hE
      by_cases h64 : (64 : Int) < N
      · have HT := Lib.hid (takeF_no2 (l := l) HTC.out (.inr (by omega)))
        have h64' : decide ((64 : Int) < N) = true := decide_eq_true h64
        clear h64
        go_enter Try.func18, Try.ntmps18
        go_wp2_with fail
        refine (HH.out _).mono ?_
        rintro e w1 ⟨rfl, rfl⟩
        go_wp2_with fail
        refine HC.out.mono ?_
        rintro e w1 ⟨rfl, rfl⟩
        go_wp2_with fail
        go_ret2
        refine ⟨none, 0, 0, ?_, ?_, Below.refl _ _⟩
        · rw [HT.out]
          rfl
        · rw [HT.out]
          exact OwnI.nil_ _ _
      · have hN64 : (N : Int) ≤ 64 := by omega
        have hsl2 := run_slice_l_rd (P := Try.prog) (A := cutA A c 2 1) (n := n - 2) (c := c - 2) eb (kl := .i64) k (L := (k : Int)) rfl hkn
        have hd2 := hd.drop_ hkn
        have hbk : blk (cutA (cutA A c 2 1) (c - 2) k 1) = blk A := (blk_cutA _ _ _ _).trans (blk_cutA _ _ _ _)
        have HBK := Lib.hid hbk
        clear h64 hN1 hbk
        go_enter Try.func18, Try.ntmps18
        go_wp2_with fail
        refine (HH.out _).mono ?_
        rintro e w1 ⟨rfl, rfl⟩
        go_wp2_with fail
        refine HC.out.mono ?_
        rintro e w1 ⟨rfl, rfl⟩
        go_wp2_with fail
        go_loopw [0, 7, 38] (fun b v i wr => ∃ (j : Nat) (r : List UInt8) (its : List It) (A' : Option Addr) (n' c' : Nat) (Ab : Option Addr) (nb cb : Nat), i = .int .u64 j ∧ j ≤ N ∧ v = .slice A' n' c' ∧ b = .slice Ab nb cb ∧ OwnI wr w.heap.size A' n' c' its ∧ Hid (its.length = j) ∧ Rd wr 1 Ab nb cb (r.map b8) ∧ Hid (blk Ab = blk A) ∧ nb ≤ 4000 ∧ Hid (goI N [] ((l.drop 2).drop k) = goI (N - j) its r) ∧ Below w.heap.size w wr) (fun _ _ i _ => N - (intOf i).toNat)
        case atStart => exact ⟨0, _, [], _, _, _, _, _, _, rfl, by omega, rfl, rfl, OwnI.nil_ _ _, rfl, hd2, HBK.out, by omega, rfl, Below.refl _ _⟩
        case round =>
          obtain ⟨j, r, its, A', n', c', Ab, nb, cb, rfl, hj, rfl, rfl, ho, hlen, hrd, hbA, hnb, hgo, hb⟩ := hrel
          have hB := hb.size
          have hj0 : (0 : Int) ≤ j := by omega
          by_cases hjN : j < N
          · have hI := Lib.hid (item_any Ab nb cb r wr hrd (by omega))
            go_wp2_with fail
            refine hI.out.mono ?_
            rintro e w1 ⟨hbl1, hres⟩
            have ho1 := ho.below hbl1
            have hb1 := hb.trans (hbl1.mono hB)
            rcases hres with ⟨hnone, y, hy, rfl⟩ | ⟨x, q, A3, n3, c3, hsome, hx, rfl, hq, hqb⟩
            · have HT := Lib.hid (takeF_fail (l := l) HH1.out HTC.out (by omega) (by rw [hgo.out, show N - j = (N - j - 1) + 1 by omega]; exact goI_none hnone))
              clear hnone hgo
              go_wp2_with (first
                | (refine wpList_alloc_zero rfl _ rfl (itA itZ) zero_it ?_; intro w2 hg2 hb2 hz2; clear hz2)
                | (refine wpList_store_all rfl _ _ _ rfl w1.heap.size rfl _ _ _ (by rfl) hg2 (size_it hy) (itA_same itZ_ok hy) itA_one ?_; intro w3 hg3 hgr3 hz3; clear hz3))
              go_ret2
              have hbl13 : Below w1.heap.size w1 w3 := hb2.grown hgr3 hb2.size (fun g hg => by injection hg with hg; omega)
              refine ⟨none, 0, 0, ?_, ?_, hb1.trans (hbl13.mono hb1.size)⟩
              · rw [HT.out]
                rfl
              · rw [HT.out]
                exact OwnI.nil_ _ _
            · have hgo2 : goI N [] ((l.drop 2).drop k) = goI (N - (j + 1)) (its ++ [x]) q := by
                rw [hgo.out, show N - j = (N - (j + 1)) + 1 by omega]
                exact goI_some hsome
              have HGO := Lib.hid hgo2
              have hn3 : n3 ≤ 4000 := by
                have h1 := itP_len hsome
                have h2 := hq.lenb
                have h3 := hrd.lenb
                omega
              have hjn : its.length = n' := ho.len
              have hj2 : n' ≤ 64 := by have := hlen.out; omega
              have HJN := Lib.hid (hjn.symm.trans hlen.out)
              have hqA : ∀ g, blk A3 = some g → g < w.heap.size := fun g hg => hlA g (by rw [← hbA.out, ← hqb]; exact hg)
              have HQB := Lib.hid (hqb.trans hbA.out)
              clear hsome hgo hgo2 hjn hlen hrd hqb hbA hsl1 hsl2 hd hd2
              go_wp2_with (first
                | (refine wpList_alloc_zero rfl _ rfl (itA itZ) zero_it ?_; intro w2 hg2 hb2 hz2; clear hz2)
                | (refine wpList_store_all rfl _ _ _ rfl w1.heap.size rfl _ _ _ (by rfl) hg2 (size_it hx) (itA_same itZ_ok hx) itA_one ?_; intro w3 hg3 hgr3 hz3; clear hz3; have hbl13 : Below w1.heap.size w1 w3 := hb2.grown hgr3 hb2.size (fun g hg => by injection hg with hg; omega))
                | (refine wpList_load_all (by rfl) _ _ rfl w1.heap.size rfl _ _ _ _ hg3 Try.underlying33 rfl (size_it hx) ?_)
                | (refine wpList_slice_it rfl _ rfl rfl hx ?_; intro w4 hi4 hbl4; have ho4 := (ho1.below hbl13).below hbl4; have hb4 := (hb1.trans (hbl13.mono hb1.size)).trans (hbl4.mono (Nat.le_trans hb1.size hbl13.size)))
                | (at_builtin; refine wpList_app rfl _ _ rfl ei ho4.own rfl hi4.rd rfl (its_one _) (by omega) (by unfold maxLen; omega) hb4.size ?_; intro A5 c5 w5 ho5 hg5 hq5))
              have hb5 : Below w.heap.size w w5 := hb4.grown hg5 hb4.size (fun g hg => (ho.own.lt g hg).1)
              have hoI : OwnI w5 w.heap.size A5 (n' + 1) c5 (its ++ [x]) := ⟨by rw [its_append]; exact ho5, fun y hy => by
                rcases List.mem_append.1 hy with hy | hy
                · exact ho.ok y hy
                · exact hi4.ok y hy⟩
              have hq5' : Rd w5 1 A3 n3 c3 (q.map b8) := ((hq.below hbl13).below hbl4).grown hg5 (fun g hg e => by
                have h1 := (ho.own.lt g e).1
                have h2 := hqA g hg
                omega)
              go_roundw
              case rel =>
                refine ⟨j + 1, q, its ++ [x], A5, n' + 1, c5, A3, n3, c3, by go_num, by omega, rfl, rfl, hoI, ?_, hq5', HQB.out, hn3, HGO.out, hb5⟩
                show (its ++ [x]).length = j + 1
                have h1 := ho.len
                have h2 := HJN.out
                rw [List.length_append]
                simp only [List.length_cons, List.length_nil]
                omega
              case measure => simp [intOf]; omega
          · have e : j = N := by omega
            subst e
            have hg0 : goI j [] ((l.drop 2).drop k) = some (its, r) := by
              rw [hgo.out, Nat.sub_self]
              rfl
            have hM := May_any ho.its
            have hrl := hrd.lenb
            by_cases hr0 : 0 < nb
            · have HT := Lib.hid (takeF_bad (l := l) HH1.out HTC.out (by omega) hg0 (.inl (fun e => by rw [e] at hrl; simp at hrl; omega)))
              have hr0' : (0 : Int) < nb := by omega
              clear hg0 hgo hrl hM
              go_wp2_with fail
              go_ret2
              refine ⟨none, 0, 0, ?_, ?_, hb⟩
              · rw [HT.out]
                rfl
              · rw [HT.out]
                exact OwnI.nil_ _ _
            · have hr1 : r = [] := List.eq_nil_of_length_eq_zero (by omega)
              obtain rfl : nb = 0 := by omega
              by_cases hm : mayL its = false
              · rw [hm] at hM
                have HM := Lib.hid hM
                have HT := Lib.hid (takeF_bad (l := l) HH1.out HTC.out (by omega) hg0 (.inr hm))
                clear hg0 hgo hrl hM hm hr1
                go_wp2_with fail
                refine HM.out.mono ?_
                rintro e w1 ⟨rfl, hbl1⟩
                go_wp2_with fail
                go_ret2
                refine ⟨none, 0, 0, ?_, ?_, hb.trans (hbl1.mono hB)⟩
                · rw [HT.out]
                  rfl
                · rw [HT.out]
                  exact OwnI.nil_ _ _
              · have hm' : mayL its = true := by simpa using hm
                rw [hm'] at hM
                have HM := Lib.hid hM
                have HT := Lib.hid (takeF_yes (l := l) HH1.out HTC.out (by omega) hg0 (fun hc => by
                  rcases hc with hc | hc
                  · exact hc hr1
                  · exact hm hc))
                clear hg0 hgo hrl hM hm hm' hr1
                go_wp2_with fail
                refine HM.out.mono ?_
                rintro e w1 ⟨rfl, hbl1⟩
                go_wp2_with fail
                go_ret2
                refine ⟨A', n', c', ?_, ?_, hb.trans (hbl1.mono hB)⟩
                · rw [HT.out]
                  rfl
                · rw [HT.out]
                  exact ho.below hbl1
    · have HT := Lib.hid (takeF_no2 (l := l) HTC.out (.inl hE))
      have hE' : (E != 0) = true := by simpa using hE
      clear hE
      go_enter Try.func18, Try.ntmps18
      go_wp2_with fail
      refine (HH.out _).mono ?_
      rintro e w1 ⟨rfl, rfl⟩
      go_wp2_with fail
      refine HC.out.mono ?_
      rintro e w1 ⟨rfl, rfl⟩
      go_wp2_with fail
      go_ret2
      refine ⟨none, 0, 0, ?_, ?_, Below.refl _ _⟩
      · rw [HT.out]
        rfl
      · rw [HT.out]
        exact OwnI.nil_ _ _
  · have HT := Lib.hid (takeF_no1 (l := l) (.inr hp))
    have hH := HasForm l
    rw [decide_eq_false hp] at hH
    have HH := Lib.hid hH
    clear hH hp h4
    go_enter Try.func18, Try.ntmps18
    go_wp2_with fail
    refine (HH.out _).mono ?_
    rintro e w1 ⟨rfl, rfl⟩
    go_wp2_with fail
    go_ret2
    refine ⟨none, 0, 0, ?_, ?_, Below.refl _ _⟩
    · rw [HT.out]
      rfl
    · rw [HT.out]
      exact OwnI.nil_ _ _

end Go.Proofs.Ytgdbdhfomlkpdaa
