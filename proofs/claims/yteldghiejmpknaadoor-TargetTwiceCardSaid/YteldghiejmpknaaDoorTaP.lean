/-
  Package target: Print.
-/
import Derived.Test.YteldghiejmpknaaDoorTaO
import Derived.Test.YteldghiejmpknaaDoorTaJ
import Derived.Deep.CutRange
import Derived.Deep.CutBlock
namespace Go.Proofs.YteldghiejmpknaaDoor
open Go.RowKit

theorem printP_snoc (P : List (List UInt8)) (p : List UInt8) : printP (P ++ [p]) = printP P ++ [47] ++ escL p := by simp [printP]
theorem printP_take {P : List (List UInt8)} {k : Nat} {p : List UInt8} (hx : P[k]? = some p) : printP (P.take (k + 1)) = printP (P.take k) ++ [47] ++ escL p := by
  obtain ⟨hk, he⟩ := List.getElem?_eq_some_iff.1 hx
  rw [List.take_succ_eq_append_getElem hk, he, printP_snoc]
theorem printQ_snoc : ∀ (Q : List Pm) (m : UInt8) (q : Pm), printQ m (Q ++ [q]) = printQ m Q ++ [if Q = [] then m else 38] ++ escL q.1 ++ [61] ++ escL q.2
  | [], m, q => by simp [printQ]
  | p :: Q, m, q => by
    rw [List.cons_append, printQ, printQ, printQ_snoc Q 38 q, if_neg (List.cons_ne_nil p Q)]
    by_cases hQ : Q = [] <;> simp [hQ]
theorem printQ_take {Q : List Pm} {k : Nat} {q : Pm} {m : UInt8} (hx : Q[k]? = some q) : printQ m (Q.take (k + 1)) = printQ m (Q.take k) ++ [if k = 0 then m else 38] ++ escL q.1 ++ [61] ++ escL q.2 := by
  obtain ⟨hk, he⟩ := List.getElem?_eq_some_iff.1 hx
  rw [List.take_succ_eq_append_getElem hk, he, printQ_snoc]
  have e : (Q.take k = []) = (k = 0) := by
    rw [List.take_eq_nil_iff]
    cases Q with
    | nil => simp at hk
    | cons a Q => simp
  simp only [e]
theorem printP_len : ∀ P : List (List UInt8), (∀ p ∈ P, p.length ≤ 1000) → (printP P).length ≤ 3001 * P.length
  | [], _ => Nat.le_refl _
  | p :: P, h => by
    have ih := printP_len P (fun q hq => h q (by simp [hq]))
    have h1 := escL_len p
    have h2 := h p (by simp)
    have e : printP (p :: P) = 47 :: (escL p ++ printP P) := by simp [printP]
    rw [e]
    simp
    omega
theorem printQ_len : ∀ (Q : List Pm) (m : UInt8), (∀ q ∈ Q, q.1.length ≤ 1000 ∧ q.2.length ≤ 1000) → (printQ m Q).length ≤ 6002 * Q.length
  | [], _, _ => Nat.le_refl _
  | q :: Q, m, h => by
    have ih := printQ_len Q 38 (fun q hq => h q (by simp [hq]))
    have h1 := escL_len q.1
    have h2 := escL_len q.2
    have h3 := h q (by simp)
    rw [printQ]
    simp
    omega
theorem bw_lt {b0 b : Nat} {l : List UInt8} {w : World} (h : BW b0 b l w) : b < w.heap.size := by
  rcases h with h | h
  · exact h.lt
  · exact h.lt
theorem bw_below {b0 b : Nat} {l : List UInt8} {w : World} (h : BW b0 b l w) : b0 ≤ b := by
  rcases h with h | h
  · exact h.1
  · exact h.1
noncomputable def printR (P : List (List UInt8)) (Q : List Pm) : List UInt8 × Int := if mayF P Q then (printF P Q, 0) else ([], 1)

set_option maxRecDepth 20000 in
set_option maxHeartbeats 8000000 in
theorem Print_any {w : World} {A B : Option Addr} {n c m d : Nat} {P : List (List UInt8)} {Q : List Pm} (hS : Ss w A n c P) (hQ : Ps w B m d Q)
    (hp : ∀ p ∈ P, p.length ≤ 1000) (hq : ∀ q ∈ Q, q.1.length ≤ 1000 ∧ q.2.length ≤ 1000) (hn : n ≤ 1000) (hm : m ≤ 1000) :
    Calls Tryd.prog 13 #[.agg (tgA A n c B m d)] w fun e w' => e = .returned (.tuple #[.string ⟨(printR P Q).1.toArray⟩, .int .i64 (printR P Q).2]) ∧ Below w.heap.size w w' := by
  have hPl : P.length = n := by have := Rd.len hS; simpa using this
  have hQl := hQ.len
  have HPL := Lib.hid hPl
  have HQL := Lib.hid hQl
  have HM := Lib.hid (fun W (hb : Below w.heap.size w W) => May_any (Rd.below hS hb) (hQ.below hb) (fun p h => Nat.le_trans (hp p h) (by omega)) (fun q h => ⟨Nat.le_trans (hq q h).1 (by omega), Nat.le_trans (hq q h).2 (by omega)⟩) (by omega))
  have HS := Lib.hid hS
  have HQ := Lib.hid hQ
  have hnil := Rd.nil hS
  have hle := Rd.le hS
  have HP1 := Lib.hid hp
  have HQ1 := Lib.hid hq
  obtain ⟨z, hz⟩ : ∃ z, mayF P Q = z := ⟨_, rfl⟩
  rw [hz] at HM
  cases z
  · have hr : printR P Q = ([], 1) := by unfold printR; rw [hz]; rfl
    have HR := Lib.hid hr
    clear hPl hQl hS hQ hp hq hr hz hnil
    go_enter Tryd.func13, Tryd.ntmps13
    go_upto_region 1 with (refine wpList_box rfl _ _ rfl (tgA A n c B m d) rfl ?_; intro w1 hg1 hb1 hz1)
    clear hz1
    go_wp2_with (refine wpList_load_all (by rfl) _ _ rfl w.heap.size rfl _ _ _ _ hg1 Tryd.underlying26 rfl size_tg ?_)
    refine (HM.out _ hb1).mono ?_
    rintro e w2 ⟨rfl, hb2⟩
    have hb12 := hb1.trans (hb2.mono hb1.size)
    go_wp2_with fail
    go_ret2
    rw [HR.out]
    exact ⟨rfl, hb12⟩
  have hr : printR P Q = (printF P Q, 0) := by unfold printR; rw [hz]; rfl
  have HR := Lib.hid hr
  clear hPl hQl hS hQ hp hq hr hz
  go_enter Tryd.func13, Tryd.ntmps13
  go_upto_region 1 with (refine wpList_box rfl _ _ rfl (tgA A n c B m d) rfl ?_; intro w1 hg1 hb1 hz1)
  clear hz1
  go_wp2_with (refine wpList_load_all (by rfl) _ _ rfl w.heap.size rfl _ _ _ _ hg1 Tryd.underlying26 rfl size_tg ?_)
  refine (HM.out _ hb1).mono ?_
  rintro e w2 ⟨rfl, hbl2⟩
  have hb2 := hb1.trans (hbl2.mono hb1.size)
  have hg2 := (hbl2.block _ (Array.getElem?_eq_some_iff.1 hg1).1).trans hg1
  have hlt2 : w.heap.size < w2.heap.size := (Array.getElem?_eq_some_iff.1 hg2).1
  clear hbl2 hg1 hb1
  go_upto_region 4 with fail
  have hB0 : BW w2.heap.size w2.heap.size [] (w2.alloc (.cells #[.pointer none, .slice none 0 0] 54)) := Lib.fresh_isBuilder 54 5 w2
  have hb3 : Below w2.heap.size w2 (w2.alloc (.cells #[.pointer none, .slice none 0 0] 54)) := (Below.refl _ _).alloc (Nat.le_refl _) _
  obtain ⟨w3, hw3⟩ : ∃ w3, w2.alloc (.cells #[.pointer none, .slice none 0 0] 54) = w3 := ⟨_, rfl⟩
  rw [hw3] at hB0 hb3
  simp only [hw3]
  have hBOX : ∀ W, Below w2.heap.size w2 W → W.cell? ⟨w.heap.size, 0, none⟩ = some (.slice A n c) ∧ W.cell? ⟨w.heap.size, 1, none⟩ = some (.slice B m d) := fun W hW => cell_tg ((hW.block _ hlt2).trans hg2)
  have HBOX := Lib.hid hBOX
  obtain ⟨hc0, hc1⟩ := hBOX w3 hb3
  obtain ⟨b, hb⟩ : ∃ b, w2.heap.size = b := ⟨_, rfl⟩
  rw [hb] at hB0 hb3 HBOX hlt2 ⊢
  have hbw : ∀ W, Below b w2 W → Below w.heap.size w W := fun W hW => hb2.trans (hW.mono (by omega))
  have HBW := Lib.hid hbw
  have hs2 : ∀ W, Below b w2 W → b ≤ W.heap.size := fun W hW => by have := hW.size; omega
  have HS2 := Lib.hid hs2
  clear hw3 hg2 hb2 hb hBOX hbw hs2
  go_wp2_with fail
  go_loopw [16] (fun i wr => ∃ k : Nat, k ≤ n ∧ i = .int .i64 k ∧ BW b b (printP (P.take k)) wr ∧ Below b w2 wr) (fun i _ => n - (intOf i).toNat)
  case atStart => exact ⟨0, by omega, rfl, hB0, hb3⟩
  case round =>
    obtain ⟨k, hk, rfl, hB, hb⟩ := hrel
    have hpl := printP_len (P.take k) (fun p h => HP1.out p (List.mem_of_mem_take h))
    rw [List.length_take, HPL.out] at hpl
    have hb0 := HS2.out wr hb
    by_cases hkn : k < n
    · have hx : P[k]? = some (P[k]'(by rw [HPL.out]; exact hkn)) := List.getElem?_eq_getElem _
      generalize P[k]'(by rw [HPL.out]; exact hkn) = p at hx
      have hidx := run_index_rd (P := Tryd.prog) (A := A) (n := n) (c := c) es hnil hle k hkn
      rw [Nat.mul_one] at hidx
      have hcell := Rd.cell (Rd.below HS.out (HBW.out wr hb)) k (strV p) (by rw [List.getElem?_map, hx]; rfl)
      unfold strV at hcell
      have hk' : (k : Int) < n := by omega
      have hp1 := HP1.out p (List.mem_of_getElem? hx)
      have HN := Lib.hid (printP_take hx)
      obtain ⟨M, hM⟩ : ∃ M, printP (P.take k) = M := ⟨_, rfl⟩
      rw [hM] at HN hB hpl
      have hMl : M.length ≤ 10000000 := by omega
      clear hx hkn hpl hM
      go_wp2_with fail
      refine (put_any b b M 47 47 rfl _ hB (by omega) hb0).mono ?_
      rintro e w4 ⟨rfl, hB4, hb4, _⟩
      have hb4' := hb.trans hb4
      go_wp2_with fail
      refine (write_any b b _ p _ hB4 (by simp; omega) (HS2.out _ hb4')).mono ?_
      rintro e w5 ⟨rfl, hB5, hb5, _⟩
      rw [← HN.out] at hB5
      have hb5' := hb4'.trans hb5
      go_wp2_with fail
      go_roundw
      case rel => exact ⟨k + 1, by omega, by go_num, hB5, hb5'⟩
      case measure => simp [intOf]; omega
    · obtain rfl : k = n := by omega
      have hfin : P.take k = P := List.take_of_length_le (by rw [HPL.out]; exact Nat.le_refl _)
      rw [hfin] at hB hpl
      have hMl : (rootP P).length ≤ 10000000 := by
        unfold rootP
        split
        · simp
        · omega
      obtain ⟨hc0, hc1⟩ := HBOX.out wr hb
      have hb0' := HS2.out wr hb
      clear hkn hfin hpl
      go_upto_if 27 with fail
      go_cut [3] from 28 to 28 (fun z wx => z = .int .i64 0 ∧ BW b b (rootP P) wx ∧ Below b w2 wx)
      case first =>
        by_cases hP : P = []
        · have hk0 : k = 0 := by rw [← HPL.out, hP]; rfl
          have hr : rootP P = [] ++ [47] := by rw [hP]; rfl
          have hB' : BW b b [] wr := by rw [hP] at hB; exact hB
          have HRP := Lib.hid hr
          subst hk0
          clear hP hr hB
          go_wp2_with fail
          refine (put_any b b [] 47 47 rfl _ hB' (by simp) hb0').mono ?_
          rintro e w4 ⟨rfl, hB4, hb4, _⟩
          rw [← HRP.out] at hB4
          have hb4' := hb.trans hb4
          go_wp2_with fail
          go_meet
          exact ⟨rfl, hB4, hb4'⟩
        · have hr : rootP P = printP P := if_neg hP
          rw [← hr] at hB
          have hk0 : ((k : Int) == 0) = false := by
            have : P.length ≠ 0 := fun h => hP (List.eq_nil_of_length_eq_zero h)
            rw [HPL.out] at this
            simp
            omega
          clear hP hr
          go_wp2_with fail
          go_meet
          exact ⟨rfl, hB, hb⟩
      case rest =>
        clear hB hb hb0 hb0' hc0 hc1
        obtain ⟨rfl, hB, hb⟩ := hcut
        obtain ⟨hc0, hc1⟩ := HBOX.out _ hb
        clear hc0
        go_wp2_with fail
        clear hc1
        go_loopw [7, 32] (fun mv i wr => ∃ (l : Nat) (mk : UInt8), l ≤ m ∧ mv = .int .u8 (mk.toNat : Int) ∧ Hid (mk = if l = 0 then 63 else 38) ∧ i = .int .i64 l ∧ BW b b (rootP P ++ printQ 63 (Q.take l)) wr ∧ Below b w2 wr) (fun _ i _ => m - (intOf i).toNat)
        case atStart => exact ⟨0, 63, by omega, rfl, rfl, rfl, by simpa [printQ] using hB, hb⟩
        case round =>
          obtain ⟨l, mk, hl, rfl, hmk, rfl, hB, hb⟩ := hrel
          have hpl := printQ_len (Q.take l) 63 (fun q h => HQ1.out q (List.mem_of_mem_take h))
          rw [List.length_take, HQL.out] at hpl
          have hb0 := HS2.out wr hb
          by_cases hlm : l < m
          · have hx : Q[l]? = some (Q[l]'(by rw [HQL.out]; exact hlm)) := List.getElem?_eq_getElem _
            generalize Q[l]'(by rw [HQL.out]; exact hlm) = q at hx
            have hQr := HQ.out.below (HBW.out wr hb)
            have hidx := fun W => hQr.idx hlm W
            have HLD := Lib.hid (hQr.load hx)
            have hl' : (l : Int) < m := by omega
            have hq1 := HQ1.out q (List.mem_of_getElem? hx)
            have hN : rootP P ++ printQ 63 (Q.take (l + 1)) = (rootP P ++ printQ 63 (Q.take l)) ++ [if l = 0 then 63 else 38] ++ escL q.1 ++ [61] ++ escL q.2 := by
              rw [printQ_take hx]
              simp only [List.append_assoc]
            obtain ⟨x, y⟩ := q
            dsimp only at HLD hq1 hN
            obtain ⟨hqx, hqy⟩ := hq1
            have hex := escL_len x
            obtain ⟨M, hM⟩ : ∃ M, rootP P ++ printQ 63 (Q.take l) = M := ⟨_, rfl⟩
            rw [hM, ← hmk.out] at hN
            rw [hM] at hB
            have hMl2 : M.length ≤ 20000000 := by
              rw [← hM, List.length_append]
              omega
            have HN := Lib.hid hN
            clear hx hlm hpl hM hQr hN hmk
            go_wp2_with (first
              | (refine wpList_load_run rfl _ _ rfl _ rfl _ HLD.out ?_)
              | (refine wpList_alloc_zero rfl _ rfl (prA [] []) zero_pr ?_; intro w4 hg4 hb4 hz4; clear hz4)
              | (refine wpList_store_all rfl _ _ _ rfl wr.heap.size rfl _ _ _ rfl hg4 (size_pr _ _) rfl (pr_one _ _) ?_; intro w5 hg5 hgr5 hz5; clear hz5; have hb5 : Below wr.heap.size wr w5 := hb4.grown hgr5 hb4.size (fun g hg => (by obtain rfl := Option.some.inj hg; exact Nat.le_refl _)); have hlt5 : wr.heap.size < w5.heap.size := (Array.getElem?_eq_some_iff.1 hg5).1))
            have hb5' := hb.trans (hb5.mono hb0)
            have hB5 : BW b b M w5 := bw_go hB hb5
            refine (put_any b b M mk _ rfl _ hB5 (by omega) (HS2.out _ hb5')).mono ?_
            rintro e w6 ⟨rfl, hB6, hb6, hsp6⟩
            have hb6' := hb5'.trans hb6
            have hne5 : wr.heap.size ≠ b := fun e => by
              have := bw_lt hB
              omega
            have hno : ∀ cs fr, w5.heap[wr.heap.size]? ≠ some (.cells cs 5 fr) := fun cs fr e => by
              rw [hg5] at e
              injection e with e
              injection e with _ e
              revert e
              decide
            have hg6 := (hsp6 _ hlt5 hne5 hno).trans hg5
            have hd0 := (cell_pr hg6).1
            clear hg4 hgr5 hb4 hb5 hB hb
            go_wp2_with fail
            refine (write_any b b _ x _ hB6 (by simp; omega) (HS2.out _ hb6')).mono ?_
            rintro e w7 ⟨rfl, hB7, hb7, hsp7⟩
            have hb7' := hb6'.trans hb7
            have hsp57 := hsp6.trans hsp7 hb6.size
            clear hd0 hg6
            go_wp2_with fail
            refine (put_any b b _ 61 61 rfl _ hB7 (by simp; omega) (HS2.out _ hb7')).mono ?_
            rintro e w8 ⟨rfl, hB8, hb8, hsp8⟩
            have hb8' := hb7'.trans hb8
            have hsp58 := hsp57.trans hsp8 (hb6.trans hb7).size
            have hg8 := (hsp58 _ hlt5 hne5 hno).trans hg5
            have hd1 := (cell_pr hg8).2
            go_wp2_with fail
            refine (write_any b b _ y _ hB8 (by simp; omega) (HS2.out _ hb8')).mono ?_
            rintro e w9 ⟨rfl, hB9, hb9, _⟩
            have hb9' := hb8'.trans hb9
            rw [← HN.out] at hB9
            clear hd1 hg8
            go_wp2_with fail
            go_roundw
            case rel => exact ⟨l + 1, 38, by omega, rfl, (if_neg (Nat.succ_ne_zero l)).symm, by go_num, hB9, hb9'⟩
            case measure => simp [intOf]; omega
          · obtain rfl : l = m := by omega
            have hfin : Q.take l = Q := List.take_of_length_le (by rw [HQL.out]; exact Nat.le_refl _)
            rw [hfin] at hB
            have HPR := Lib.hid (Tryd.Builder_String_any b b (printF P Q) wr hB hb0)
            have hbw := HBW.out wr hb
            have hle2 : w.heap.size ≤ b := by omega
            clear hlm hfin hpl
            go_wp2_with fail
            refine HPR.out.mono ?_
            rintro e w9 ⟨rfl, hb9⟩
            go_wp2_with fail
            go_ret2
            rw [HR.out]
            exact ⟨rfl, hbw.trans (hb9.mono hle2)⟩

end Go.Proofs.YteldghiejmpknaaDoor
