/-
  The law TargetTwice.
-/
import Derived.Test.YteldghiejmpknaaDoorTaX
namespace Go.Proofs.YteldghiejmpknaaDoor
open Go.RowKit

/-- What is printed of good names is read as they say, one name twice or not. -/
theorem parse_fin {P : List (List UInt8)} {q : Pm} {Q : List Pm} (h1 : ∀ p ∈ P, GoodP p) (h2 : ∀ p ∈ q :: Q, GoodP p.1 ∧ (0 : UInt8) ∉ p.2) : parseF (printF P (q :: Q)) = finF P (q :: Q) := by
  unfold printF
  rw [printQ, parse_rootP h1 (.inr ⟨_, rfl⟩), cont_query, queryQ_print Q P [] q h2]
  rfl
def twQ (n v : List UInt8) : List Pm := [(n, v), (n ++ [120], [])]
theorem tw_good {p n v : List UInt8} (h : mayF [p] (twQ n v) = true) : GoodP p ∧ GoodP n ∧ (0 : UInt8) ∉ v := by
  obtain ⟨h1, h2⟩ := mayF_iff.1 h
  obtain ⟨a, b, c, _⟩ := h2 0 (n, v) rfl
  exact ⟨h1 p (by simp), ⟨a, b⟩, c⟩
theorem esc_one (x : UInt8) (h : plB x = true) : escL [x] = [x] := by
  simp [escL, escB, h]
theorem tw_text (p n v : List UInt8) : printF [p] (twQ n v) ++ [38] ++ escL n ++ [61, 49] = printF [p] ((n, v) :: [(n ++ [120], []), (n, [49])]) := by
  have e1 : printQ 63 ((n, v) :: [(n ++ [120], []), (n, [49])]) = printQ 63 (twQ n v) ++ [38] ++ escL n ++ [61] ++ escL [49] := by
    have := printQ_snoc (twQ n v) 63 (n, [49])
    rw [if_neg (by unfold twQ; simp)] at this
    exact this
  unfold printF
  rw [e1, esc_one 49 (by decide)]
  simp
theorem tw_text2 (p n v : List UInt8) : printF [p] (twQ n v) ++ [38] ++ escL n ++ [121, 61, 49] = printF [p] ((n, v) :: [(n ++ [120], []), (n ++ [121], [49])]) := by
  have e1 : printQ 63 ((n, v) :: [(n ++ [120], []), (n ++ [121], [49])]) = printQ 63 (twQ n v) ++ [38] ++ escL (n ++ [121]) ++ [61] ++ escL [49] := by
    have := printQ_snoc (twQ n v) 63 (n ++ [121], [49])
    rw [if_neg (by unfold twQ; simp)] at this
    exact this
  unfold printF
  rw [e1, esc_one 49 (by decide), escL_app, esc_one 121 (by decide)]
  simp
theorem good_app {n : List UInt8} (h : GoodP n) {x : UInt8} (hx : x ≠ 0) : GoodP (n ++ [x]) := ⟨by simp, by
  have := h.2
  simp [this, Ne.symm hx]⟩
theorem tw_parse {p n v : List UInt8} (h : mayF [p] (twQ n v) = true) : parseF (printF [p] (twQ n v) ++ [38] ++ escL n ++ [61, 49]) = ([], [], 6) := by
  obtain ⟨hp, hn, hv⟩ := tw_good h
  rw [tw_text, parse_fin (by simpa using hp) (by
    intro q hq
    simp at hq
    rcases hq with rfl | rfl | rfl
    · exact ⟨hn, hv⟩
    · exact ⟨good_app hn (by decide), by simp⟩
    · exact ⟨hn, by simp⟩)]
  unfold finF
  rw [mayF_no]
  · rfl
  · rintro ⟨_, h2⟩
    obtain ⟨_, _, _, h3⟩ := h2 2 (n, [49]) rfl
    exact h3 0 (n, v) (by omega) rfl rfl
theorem tw_parse2 {p n v : List UInt8} (h : mayF [p] (twQ n v) = true) : parseF (printF [p] (twQ n v) ++ [38] ++ escL n ++ [121, 61, 49]) = ([p], [(n, v), (n ++ [120], []), (n ++ [121], [49])], 0) := by
  obtain ⟨hp, hn, hv⟩ := tw_good h
  rw [tw_text2, parse_fin (by simpa using hp) (by
    intro q hq
    simp at hq
    rcases hq with rfl | rfl | rfl
    · exact ⟨hn, hv⟩
    · exact ⟨good_app hn (by decide), by simp⟩
    · exact ⟨good_app hn (by decide), by simp⟩)]
  unfold finF
  rw [mayF_yes]
  · rfl
  · refine ⟨by simpa using hp, fun k q hq => ?_⟩
    match k, hq with
    | 0, hq =>
      obtain rfl := Option.some.inj hq
      exact ⟨hn.1, hn.2, hv, fun j p hj => by omega⟩
    | 1, hq =>
      obtain rfl := Option.some.inj hq
      refine ⟨(good_app hn (by decide)).1, (good_app hn (by decide)).2, by simp, fun j p hj hp => ?_⟩
      obtain rfl : j = 0 := by omega
      obtain rfl := Option.some.inj hp
      simp
    | 2, hq =>
      obtain rfl := Option.some.inj hq
      refine ⟨(good_app hn (by decide)).1, (good_app hn (by decide)).2, by simp, fun j p hj hp => ?_⟩
      have hj2 : j = 0 ∨ j = 1 := by omega
      rcases hj2 with rfl | rfl
      · obtain rfl := Option.some.inj hp
        simp
      · obtain rfl := Option.some.inj hp
        simp
    | k + 3, hq => simp at hq
theorem cat5 (X E t : List UInt8) : ((((⟨X.toArray⟩ : ByteArray) ++ ⟨#[38]⟩) ++ ⟨E.toArray⟩) ++ ⟨t.toArray⟩) = ⟨(X ++ [38] ++ E ++ t).toArray⟩ := by
  apply ByteArray.ext
  apply Array.ext'
  simp
section
variable {ops : Array Oper} {rest : List Oper} {o : Oper} {a : Act} {Q : Exit → Act → World → Prop} {w : World}
theorem fill_pr2 (x y u v : List UInt8) : Instr.fill (fun i => some (i * 2, 2)) ((Array.range (2 * 2)).map ((Value.agg (prA [] [])).cells[· % (Value.agg (prA [] [])).cells.size]!)) [(0, .agg (prA x y)), (1, .agg (prA u v))] = some #[strV x, strV y, strV u, strV v] := by kernel_rfl
theorem wpList_litP2 {x y : Operand} {u v u2 v2 : List UInt8} (hgd : o.guard = none) (ho : o.op = .buildSlice 24 2 #[(0, x), (1, y)]) (hx : a.eval x = .agg (prA u v)) (hy : a.eval y = .agg (prA u2 v2))
    (k : ∀ w', w' = w.alloc (.cells #[strV u, strV v, strV u2, strV v2] 32) → wpList Tryd.prog ops Q rest (a.put o.dst (.slice (some ⟨w.heap.size, 0, none⟩) 2 2)) w') : wpList Tryd.prog ops Q (o :: rest) a w := by
  obtain ⟨ie, hie, hz, hs, _⟩ := ep.info
  refine wpList_buildSlice hgd 24 32 2 _ ho #[strV u, strV v, strV u2, strV v2] ie (.agg (prA [] [])) Tryd.underlying24 hie hz (by rw [hs]; decide) (by rw [hs]; decide) ?_ (k _ rfl)
  rw [hs]
  have e : ((#[(0, x), (1, y)] : Array (Nat × Operand)).map fun (i, x) => (i, a.eval x)).toList = [(0, Value.agg (prA u v)), (1, Value.agg (prA u2 v2))] := by
    simp [hx, hy]
  rw [e]
  exact fill_pr2 u v u2 v2
theorem litP2_rd {w w' : World} {u v u2 v2 : List UInt8} {t : TypeId} (h : w' = w.alloc (.cells #[strV u, strV v, strV u2, strV v2] t)) : Rd w' 2 (some ⟨w.heap.size, 0, none⟩) 2 2 (prL [(u, v), (u2, v2)]) := by
  rw [h]
  exact (Own.new (e := t) (size := 2) (base := w.heap.size) w #[strV u, strV v, strV u2, strV v2] (0, 0) 2 2 _ (Nat.le_refl _) (Nat.le_refl _) (by unfold maxLen; omega) rfl (Nat.le_refl 4) (fun j y hy => by
    match j, hy with
    | 0, hy => exact hy
    | 1, hy => exact hy
    | 2, hy => exact hy
    | 3, hy => exact hy) (fun j _ h => by omega)).rd
end

set_option maxRecDepth 20000 in
set_option maxHeartbeats 8000000 in
theorem targetTwice_walk {w : World} (hm : Mx w) (s0 : ByteArray) (_ : s0.size ≤ maxLen) (s1 : ByteArray) (_ : s1.size ≤ maxLen) (s2 : ByteArray) (_ : s2.size ≤ maxLen) (at_i : Int) (_ : -9223372036854775808 ≤ at_i) (_ : at_i ≤ 9223372036854775807) :
    Calls Tryd.prog 7 #[.string s0, .string s1, .string s2, .int .i64 at_i] w fun e w' => e = .returned (.bool true) ∧ Below w.heap.size w w' := by
  obtain ⟨p, rfl⟩ : ∃ l : List UInt8, s0 = ⟨l.toArray⟩ := ⟨s0.data.toList, by cases s0; simp⟩
  obtain ⟨n, rfl⟩ : ∃ l : List UInt8, s1 = ⟨l.toArray⟩ := ⟨s1.data.toList, by cases s1; simp⟩
  obtain ⟨v, rfl⟩ : ∃ l : List UInt8, s2 = ⟨l.toArray⟩ := ⟨s2.data.toList, by cases s2; simp⟩
  rename_i _ _ _ hi1 hi2
  clear hi1 hi2
  have hzp := size_mk p
  have hzn := size_mk n
  have hzv := size_mk v
  have HM := Lib.hid (fun W (hb : Below w.heap.size w W) => hm.below hb)
  have HB := Lib.hid (begun_any w hm)
  clear hm
  by_cases h1 : (100 : Int) < p.length
  · have h1' : decide ((100 : Int) < p.length) = true := decide_eq_true h1
    clear h1
    go_enter Tryd.func7, Tryd.ntmps7
    go_wp2_with fail
    refine HB.out.mono ?_
    rintro e w1 ⟨rfl, hb1⟩
    go_wp2_with fail
    go_ret
    exact ⟨rfl, hb1⟩
  have h1' : decide ((100 : Int) < p.length) = false := decide_eq_false h1
  by_cases h2 : (100 : Int) < n.length
  · have h2' : decide ((100 : Int) < n.length) = true := decide_eq_true h2
    clear h1 h2
    go_enter Tryd.func7, Tryd.ntmps7
    go_wp2_with fail
    refine HB.out.mono ?_
    rintro e w1 ⟨rfl, hb1⟩
    go_wp2_with fail
    go_ret
    exact ⟨rfl, hb1⟩
  have h2' : decide ((100 : Int) < n.length) = false := decide_eq_false h2
  by_cases h3 : (100 : Int) < v.length
  · have h3' : decide ((100 : Int) < v.length) = true := decide_eq_true h3
    clear h1 h2 h3
    go_enter Tryd.func7, Tryd.ntmps7
    go_wp2_with fail
    refine HB.out.mono ?_
    rintro e w1 ⟨rfl, hb1⟩
    go_wp2_with fail
    go_ret
    exact ⟨rfl, hb1⟩
  have h3' : decide ((100 : Int) < v.length) = false := decide_eq_false h3
  have hpl : p.length ≤ 100 := by omega
  have hnl : n.length ≤ 100 := by omega
  have hvl : v.length ≤ 100 := by omega
  obtain ⟨lp, hlp⟩ : ∃ x, p.length = x := ⟨_, rfl⟩
  obtain ⟨ln, hln⟩ : ∃ x, n.length = x := ⟨_, rfl⟩
  obtain ⟨lv, hlv⟩ : ∃ x, v.length = x := ⟨_, rfl⟩
  rw [hlp] at hzp h1' 
  rw [hln] at hzn h2'
  rw [hlv] at hzv h3'
  have HPL := Lib.hid hpl
  have HNL := Lib.hid hnl
  have HVL := Lib.hid hvl
  have hln2 : ln ≤ 100 := by omega
  clear h1 h2 h3 hpl hnl hvl hlp hln hlv
  go_enter Tryd.func7, Tryd.ntmps7
  go_wp2_with fail
  refine HB.out.mono ?_
  rintro e w1 ⟨rfl, hb1⟩
  have hs1 := hb1.size
  have hcat := cat1 n 120
  go_upto_region 6 with (first
    | (refine wpList_lit1 (v := strV p) rfl rfl es rfl (fill_str _) ?_; intro w2 hw2; have hl2 := lit1_rd hw2; have hb2 := lit1_below hw2 hb1 hs1; have hs2 := hb2.size; have hb12 : Below w1.heap.size w1 w2 := lit1_below hw2 (Below.refl _ _) (Nat.le_refl _); clear hw2)
    | (refine wpList_litP2 (u := n) (v := v) (u2 := n ++ [120]) (v2 := []) rfl rfl rfl (by rw [← hcat]; rfl) ?_; intro w3 hw3; have hl3 := litP2_rd hw3; have hb3 := litP_below hw3 hb2 hs2; have hb23 : Below w2.heap.size w2 w3 := litP_below hw3 (Below.refl _ _) (Nat.le_refl _); clear hw3)
    | (refine wpList_alloc_zero rfl _ rfl tgZ zero_tg ?_; intro w4 hg4 hb4 hz4; clear hz4)
    | (refine wpList_store_all rfl _ _ _ rfl w3.heap.size rfl _ tgZ (tgA (some ⟨w1.heap.size, 0, none⟩) 1 1 (some ⟨w2.heap.size, 0, none⟩) 2 2) rfl hg4 size_tg rfl tg_one ?_; intro w5 hg5 hgr5 hz5; clear hz5))
  have hb35 : Below w3.heap.size w3 w5 := hb4.grown hgr5 hb4.size (fun g hg => by obtain rfl := Option.some.inj hg; exact Nat.le_refl _)
  have hb5 := hb3.trans (hb35.mono hb3.size)
  have hS5 : Ss w5 (some ⟨w1.heap.size, 0, none⟩) 1 1 [p] := Rd.below (Rd.below hl2 hb23) hb35
  have hQ5 : Ps w5 (some ⟨w2.heap.size, 0, none⟩) 2 2 (twQ n v) := Rd.below hl3 hb35
  generalize (some ⟨w1.heap.size, 0, none⟩ : Option Addr) = A at *
  generalize (some ⟨w2.heap.size, 0, none⟩ : Option Addr) = B at *
  have hpp : ∀ q ∈ [p], q.length ≤ 1000 := by
    intro q hq
    obtain rfl : q = p := by simpa using hq
    have := HPL.out
    omega
  have hqq : ∀ q ∈ twQ n v, q.1.length ≤ 1000 ∧ q.2.length ≤ 1000 := by
    intro q hq
    have := HNL.out
    have := HVL.out
    simp [twQ] at hq
    rcases hq with rfl | rfl <;> (simp; omega)
  have HPP := Lib.hid hpp
  have HQQ := Lib.hid hqq
  have hlt5 : w3.heap.size < w5.heap.size := (Array.getElem?_eq_some_iff.1 hg5).1
  have HPR := Lib.hid (Print_any hS5 hQ5 hpp hqq (by omega) (by omega))
  obtain ⟨y, hy⟩ : ∃ y, mayF [p] (twQ n v) = y := ⟨_, rfl⟩
  have hgl := hg5
  clear hg4 hb4 hgr5 hb35 hl2 hl3 hb23 hb12 hb3 hb2 hs2 hcat hpp hqq hb1
  cases y
  · rw [printR_no hy] at HPR
    go_wp2_with (refine wpList_load_all (by rfl) _ _ rfl w3.heap.size rfl _ _ _ _ hgl Tryd.underlying26 rfl size_tg ?_)
    refine HPR.out.mono ?_
    rintro e w6 ⟨rfl, hbl6⟩
    have hb6 := hb5.trans (hbl6.mono hb5.size)
    have hg6 := (hbl6.block _ hlt5).trans hg5
    have HMA := Lib.hid (May_any (Rd.below hS5 hbl6) (hQ5.below hbl6) (fun q h => Nat.le_trans (HPP.out q h) (by omega)) (fun q h => ⟨Nat.le_trans (HQQ.out q h).1 (by omega), Nat.le_trans (HQQ.out q h).2 (by omega)⟩) (by omega))
    rw [hy] at HMA
    clear hgl hg5 hbl6 hS5 hQ5 HPR hy
    go_wp2_with (refine wpList_load_all (by rfl) _ _ rfl w3.heap.size rfl _ _ _ _ hg6 Tryd.underlying26 rfl size_tg ?_)
    refine HMA.out.mono ?_
    rintro e w7 ⟨rfl, hbl7⟩
    have hb7 := hb6.trans (hbl7.mono hb6.size)
    go_wp2_with fail
    go_ret
    exact ⟨rfl, hb7⟩
  rw [printR_yes hy] at HPR
  have hq1 := tw_parse hy
  have hq2 := tw_parse2 hy
  have hlen := printF_len (P := [p]) (Q := twQ n v) (by simp) (by simp [twQ]) HPP.out HQQ.out
  have hel := escL_len n
  have hnl := HNL.out
  have HES := Lib.hid (fun W => REscape_any n (by omega) W)
  obtain ⟨X, hX⟩ : ∃ X, printF [p] (twQ n v) = X := ⟨_, rfl⟩
  obtain ⟨E, hE⟩ : ∃ E, escL n = E := ⟨_, rfl⟩
  rw [hX] at HPR hq1 hq2 hlen
  rw [hE] at HES hq1 hq2 hel
  have HP1 : Hid (∀ W, Below w.heap.size w W → Calls Tryd.prog 9 #[.string ((((⟨X.toArray⟩ : ByteArray) ++ ⟨#[38]⟩) ++ ⟨E.toArray⟩) ++ ⟨#[61, 49]⟩)] W (Parsed (X ++ [38] ++ E ++ [61, 49]) W)) := fun W hW => by
    have := Parse_any (X ++ [38] ++ E ++ [61, 49]) (by simp; omega) W (HM.out W hW)
    rw [← cat5] at this
    exact this
  have HP2 : Hid (∀ W, Below w.heap.size w W → Calls Tryd.prog 9 #[.string ((((⟨X.toArray⟩ : ByteArray) ++ ⟨#[38]⟩) ++ ⟨E.toArray⟩) ++ ⟨#[121, 61, 49]⟩)] W (Parsed (X ++ [38] ++ E ++ [121, 61, 49]) W)) := fun W hW => by
    have := Parse_any (X ++ [38] ++ E ++ [121, 61, 49]) (by simp; omega) W (HM.out W hW)
    rw [← cat5] at this
    exact this
  unfold Parsed at HP1 HP2
  rw [hq1] at HP1
  rw [hq2] at HP2
  have hsX := size_mk X
  have hsE := size_mk E
  obtain ⟨lx, hlx⟩ : ∃ x, X.length = x := ⟨_, rfl⟩
  obtain ⟨le, hle⟩ : ∃ x, E.length = x := ⟨_, rfl⟩
  rw [hlx] at hsX hlen
  rw [hle] at hsE hel
  have hle2 : le ≤ 300 := by omega
  clear hlx hle hel hX hE hq1 hq2 hy hnl
  go_wp2_with (refine wpList_load_all (by rfl) _ _ rfl w3.heap.size rfl _ _ _ _ hgl Tryd.underlying26 rfl size_tg ?_)
  refine HPR.out.mono ?_
  rintro e w6 ⟨rfl, hbl6⟩
  have hb6 := hb5.trans (hbl6.mono hb5.size)
  clear hgl hg5 hbl6 hS5 hQ5 HPR hb5 hlt5
  go_wp2_with fail
  refine (HES.out _).mono ?_
  rintro e w7 ⟨rfl, hbl7⟩
  have hb7 := hb6.trans (hbl7.mono hb6.size)
  go_wp2_with fail
  refine (HP1.out _ hb7).mono ?_
  rintro e w8 ⟨hbl8, A', n', c', B', m', d', rfl, hoA, hoB⟩
  dsimp only at hoA hoB ⊢
  have hb8 := hb7.trans (hbl8.mono hb7.size)
  obtain rfl : 0 = n' := by have h1 := hoA.rd.len; simp at h1; omega
  obtain rfl : 0 = m' := by have h1 := hoB.rd.len; simp [prL] at h1; omega
  clear hoA hoB hbl7 hbl8 hb6 hb7
  go_upto_region 10 with (first
    | (refine wpList_alloc_zero rfl _ rfl tgZ zero_tg ?_; intro w9 hg9 hb9 hz9; clear hz9)
    | (refine wpList_store_all rfl _ _ _ rfl w8.heap.size rfl _ tgZ (tgA A' 0 c' B' 0 d') rfl hg9 size_tg rfl tg_one ?_; intro wa hga hgra hza; clear hza))
  have hb8a : Below w8.heap.size w8 wa := hb9.grown hgra hb9.size (fun g hg => by obtain rfl := Option.some.inj hg; exact Nat.le_refl _)
  have hba := hb8.trans (hb8a.mono hb8.size)
  have hlta : w8.heap.size < wa.heap.size := (Array.getElem?_eq_some_iff.1 hga).1
  clear hg9 hb9 hgra hb8a hb8
  go_wp2_with fail
  refine (HES.out _).mono ?_
  rintro e wb ⟨rfl, hblb⟩
  have hbb := hba.trans (hblb.mono hba.size)
  have hgb := (hblb.block _ hlta).trans hga
  have hltb : w8.heap.size < wb.heap.size := Nat.lt_of_lt_of_le hlta hblb.size
  clear hblb hba hga hlta
  go_wp2_with fail
  refine (HP2.out _ hbb).mono ?_
  rintro e wc ⟨hblc, A2, n2, c2, B2, m2, d2, rfl, hoA, hoB⟩
  dsimp only at hoA hoB ⊢
  have hbc := hbb.trans (hblc.mono hbb.size)
  have hgc := (hblc.block _ hltb).trans hgb
  have hltc : w8.heap.size < wc.heap.size := Nat.lt_of_lt_of_le hltb hblc.size
  obtain rfl : 3 = m2 := by have h1 := hoB.rd.len; simp [prL] at h1; omega
  clear hoA hoB hblc hbb hgb hltb
  go_upto_region 11 with (first
    | (refine wpList_alloc_zero rfl _ rfl tgZ zero_tg ?_; intro wd hgd hbd hzd; clear hzd)
    | (refine wpList_store_all rfl _ _ _ rfl wc.heap.size rfl _ tgZ (tgA A2 n2 c2 B2 3 d2) rfl hgd size_tg rfl tg_one ?_; intro we hge hgre hze; clear hze))
  have hbce : Below wc.heap.size wc we := hbd.grown hgre hbd.size (fun g hg => by obtain rfl := Option.some.inj hg; exact Nat.le_refl _)
  have hbe := hbc.trans (hbce.mono hbc.size)
  have hgu := (hbce.block _ hltc).trans hgc
  obtain ⟨hu0, hu1⟩ := cell_tg hgu
  obtain ⟨hv0, hv1⟩ := cell_tg hge
  clear hgd hbd hgre hbce hbc hgc hltc
  go_wp2_with fail
  go_ret
  exact ⟨rfl, hbe⟩

end Go.Proofs.YteldghiejmpknaaDoor
