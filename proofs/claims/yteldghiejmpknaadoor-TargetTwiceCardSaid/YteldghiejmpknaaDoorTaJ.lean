/-
  Package target: May.
-/
import Derived.Test.YteldghiejmpknaaDoorTaH
import Derived.Maps.OwnOps
import Derived.Maps.Views
import Derived.Lib.IndexAny
namespace Go.Proofs.YteldghiejmpknaaDoor
open Go.RowKit Go.Maps

theorem lawK : Keyed Tryd.prog 9 := string_keyed Tryd.underlying9
theorem zeroE (w : World) : (zeroValue 3).run Tryd.prog w = .ok (.int .i64 0) w := by kernel_rfl
theorem ownsMap_below {H : Type} {P : Program} {k : TypeId} {R : Value → Option (DataW H × List MemPlace)} {w w' : World} {b n : Nat} {D : DataW H} (h : w.ownsMap P k R b n D) (hb : Below w.heap.size w w') : w'.ownsMap P k R b n D := by
  have hlt := h.lt
  obtain ⟨es, clock, hbk, F, hs, hD⟩ := h
  exact ⟨es, clock, (hb.block b hlt).trans hbk, F, hs, hD⟩
abbrev MapAt (w : World) (b n : Nat) (D : DataW Unit) : Prop := w.ownsMap Tryd.prog 9 (plainElem Tryd.prog 3) b n D
/-- Does the text hold a byte 0? -/
def zB (l : List UInt8) : Bool := l.contains 0
theorem zB_no {l : List UInt8} (h : zB l = false) : (0 : UInt8) ∉ l := by simpa [zB] using h
theorem zB_yes {l : List UInt8} (h : zB l = true) : (0 : UInt8) ∈ l := by simpa [zB] using h
theorem has_zero (l : List UInt8) (W : World) : Calls Tryd.prog 27 #[.string ⟨l.toArray⟩, .string ⟨#[0]⟩] W fun e w' => e = .returned (.bool (zB l)) ∧ w' = W := by
  have := Tryd.strings_Contains_one ⟨l.toArray⟩ 0 W
  have e : zB l = decide (0 ≤ Lib.indexByte l 0) := Lib.contains_iff_indexByte l 0
  rw [e]
  exact this
open Classical in
/-- How often names ahead of k are counted. -/
def Seen (Q : List Pm) (k : Nat) (D : DataW Unit) : Prop := IsMap D ∧ ∀ l : List UInt8, D.atKey (.string l) (.lit (.int .i64 0)) = .lit (.int .i64 (if ∃ (j : Nat) (p : Pm), j < k ∧ Q[j]? = some p ∧ p.1 = l then 1 else 0))
open Classical in
theorem seen_start (Q : List Pm) : Seen Q 0 (.map []) := by
  refine ⟨isMap_empty, fun l => ?_⟩
  rw [if_neg (by rintro ⟨j, p, h, _⟩; omega)]
  rfl
open Classical in
theorem seen_step {Q : List Pm} {k : Nat} {D : DataW Unit} {q : Pm} (h : Seen Q k D) (hx : Q[k]? = some q) : Seen Q (k + 1) (D.put (.string q.1) (.lit (.int .i64 1))) := by
  refine ⟨h.1.put _ _, fun l => ?_⟩
  by_cases hl : l = q.1
  · subst hl
    rw [atKey_put_same (k := .string q.1) h.1 (show WideAt.IsKeyLit (.string q.1) from trivial), if_pos ⟨k, q, by omega, hx, rfl⟩]
  · have hne : (Lit.string l) ≠ .string q.1 := fun e => hl (by injection e)
    rw [atKey_put_other hne, h.2 l]
    by_cases hc : ∃ (j : Nat) (p : Pm), j < k ∧ Q[j]? = some p ∧ p.1 = l
    · obtain ⟨j, p, h1, h2, h3⟩ := hc
      rw [if_pos ⟨j, p, h1, h2, h3⟩, if_pos ⟨j, p, by omega, h2, h3⟩]
    · rw [if_neg hc, if_neg]
      rintro ⟨j, p, h1, h2, h3⟩
      by_cases hj : j = k
      · subst hj
        rw [hx] at h2
        obtain rfl := Option.some.inj h2
        exact hl h3.symm
      · exact hc ⟨j, p, by omega, h2, h3⟩
theorem may_bad_p {P : List (List UInt8)} {Q : List Pm} {k : Nat} {p : List UInt8} (hx : P[k]? = some p) (h : p = [] ∨ zB p = true) : mayF P Q = false := mayF_no fun hM => by
  have := hM.1 p (List.mem_of_getElem? hx)
  rcases h with h | h
  · exact this.1 h
  · exact this.2 (zB_yes h)
theorem may_bad_q {P : List (List UInt8)} {Q : List Pm} {k : Nat} {q : Pm} (hx : Q[k]? = some q) (h : q.1 = [] ∨ zB (q.1 ++ q.2) = true ∨ ∃ (j : Nat) (p : Pm), j < k ∧ Q[j]? = some p ∧ p.1 = q.1) : mayF P Q = false := mayF_no fun hM => by
  obtain ⟨h1, h2, h3, h4⟩ := hM.2 k q hx
  rcases h with h | h | ⟨j, p, a, b, c⟩
  · exact h1 h
  · have := zB_yes h
    rcases List.mem_append.1 this with h | h
    · exact h2 h
    · exact h3 h
  · exact h4 j p a b c

theorem cat_mk (a b : List UInt8) : (⟨a.toArray⟩ : ByteArray) ++ ⟨b.toArray⟩ = ⟨(a ++ b).toArray⟩ := by
  apply ByteArray.ext
  simp

set_option maxRecDepth 20000 in
set_option maxHeartbeats 8000000 in
theorem May_any {w : World} {A B : Option Addr} {n c m d : Nat} {P : List (List UInt8)} {Q : List Pm} (hS : Ss w A n c P) (hQ : Ps w B m d Q)
    (hp : ∀ p ∈ P, p.length ≤ 1048576) (hq : ∀ q ∈ Q, q.1.length ≤ 1048576 ∧ q.2.length ≤ 1048576) (hm : m ≤ 1048577) :
    Calls Tryd.prog 17 #[.agg (tgA A n c B m d)] w fun e w' => e = .returned (.bool (mayF P Q)) ∧ Below w.heap.size w w' := by
  have hmm := @run_makeMap Tryd.prog
  have hPl : P.length = n := by have := Rd.len hS; simpa using this
  have hQl := hQ.len
  have HPL := Lib.hid hPl
  have HQL := Lib.hid hQl
  have HQ := Lib.hid hQ
  have hnil := Rd.nil hS
  have hle := Rd.le hS
  have hmx := Rd.max hS
  unfold maxLen at hmx
  clear hPl hQl
  go_enter Tryd.func17, Tryd.ntmps17
  go_upto_region 1 with (refine wpList_box rfl _ _ rfl (tgA A n c B m d) rfl ?_; intro w1 hg1 hb1 hz1)
  clear hz1
  obtain ⟨hc0, hc1⟩ := cell_tg hg1
  have hS1 := Rd.below hS hb1
  have hs1 := hb1.size
  clear hg1 hS hQ
  go_wp2_with fail
  go_loopw [11] (fun i wr => ∃ k : Nat, k ≤ n ∧ i = .int .i64 k ∧ w1 = wr ∧ Hid (∀ (j : Nat) p, j < k → P[j]? = some p → GoodP p)) (fun i _ => n - (intOf i).toNat)
  case atStart => exact ⟨0, by omega, rfl, rfl, (show ∀ (j : Nat) p, j < 0 → _ from fun j p h => absurd h (by omega))⟩
  case round =>
    obtain ⟨k, hk, rfl, rfl, hH⟩ := hrel
    by_cases hkn : k < n
    · have hx : P[k]? = some (P[k]'(by rw [HPL.out]; exact hkn)) := List.getElem?_eq_getElem _
      generalize P[k]'(by rw [HPL.out]; exact hkn) = p at hx
      have hidx := run_index_rd (P := Tryd.prog) (A := A) (n := n) (c := c) es hnil hle k hkn
      rw [Nat.mul_one] at hidx
      have hcell := Rd.cell hS1 k (strV p) (by rw [List.getElem?_map, hx]; rfl)
      unfold strV at hcell
      have hk' : (k : Int) < n := by omega
      have HZ := Lib.hid (fun W => has_zero p W)
      by_cases hpe : p = []
      · subst hpe
        have HE := Lib.hid (may_bad_p (Q := Q) hx (.inl rfl))
        clear hx hkn hH
        go_wp2_with fail
        go_ret
        rw [HE.out]
        exact ⟨rfl, hb1⟩
      · have hpi := ne_emp hpe
        obtain ⟨z, hz⟩ : ∃ z, zB p = z := ⟨_, rfl⟩
        rw [hz] at HZ
        cases z
        · have HN : Hid (∀ (j : Nat) q, j < k + 1 → P[j]? = some q → GoodP q) := fun j q hj hg => by
            by_cases hjk : j < k
            · exact hH.out j q hjk hg
            · obtain rfl : j = k := by omega
              rw [hx] at hg
              obtain rfl := Option.some.inj hg
              exact ⟨hpe, zB_no hz⟩
          clear hx hkn hH hpe hz
          go_wp2_with fail
          refine (HZ.out _).mono ?_
          rintro e w2 ⟨rfl, rfl⟩
          go_wp2_with fail
          go_roundw
          case rel => exact ⟨k + 1, by omega, by go_num, by trivial, HN⟩
          case measure => simp [intOf]; omega
        · have HE := Lib.hid (may_bad_p (Q := Q) hx (.inr hz))
          clear hx hkn hH hpe hz
          go_wp2_with fail
          refine (HZ.out _).mono ?_
          rintro e w2 ⟨rfl, rfl⟩
          go_wp2_with fail
          go_ret
          rw [HE.out]
          exact ⟨rfl, hb1⟩
    · obtain rfl : k = n := by omega
      have hGP : ∀ p ∈ P, GoodP p := fun p hp => by
        obtain ⟨j, hj⟩ := List.mem_iff_getElem?.1 hp
        exact hH.out j p (by rw [← HPL.out]; exact (List.getElem?_eq_some_iff.1 hj).1) hj
      have HGP := Lib.hid hGP
      have hown : MapAt (w1.alloc (.map #[] 0)) w1.heap.size 0 (.map []) := World.ownsMap_made _ _ _ _
      have hbm : Below w.heap.size w (w1.alloc (.map #[] 0)) := hb1.alloc hs1 _
      have hc2 : (w1.alloc (.map #[] 0)).cell? ⟨w.heap.size, 1, none⟩ = some (.slice B m d) := by
        have hlt := World.block_lt_of_cell? w1 _ hc1
        rw [← hc1]
        exact World.cell?_of_block (Below.heap_alloc w1 _ _ hlt)
      clear hkn hH hGP hc0 hc1 hS1 hb1
      go_wp2_with fail
      obtain ⟨w2, hw2⟩ : ∃ w2, w1.alloc (.map #[] 0) = w2 := ⟨_, rfl⟩
      obtain ⟨b, hb⟩ : ∃ b, w1.heap.size = b := ⟨_, rfl⟩
      rw [hw2, hb] at hown
      rw [hw2] at hbm hc2
      rw [hb] at hs1
      simp only [hw2, hb]
      clear hw2 hb hc2
      go_loopw [26] (fun i wr => ∃ (k : Nat) (D : DataW Unit), k ≤ m ∧ i = .int .i64 k ∧ MapAt wr b k D ∧ Hid (Seen Q k D) ∧ Below w.heap.size w wr ∧ Hid (∀ (j : Nat), j < k → GoodQ Q j)) (fun i _ => m - (intOf i).toNat)
      case atStart => exact ⟨0, _, by omega, rfl, hown, seen_start Q, hbm, (show ∀ (j : Nat), j < 0 → _ from fun j h => absurd h (by omega))⟩
      case round =>
        obtain ⟨k, D, hk, rfl, hown, hSE, hb, hH⟩ := hrel
        by_cases hkm : k < m
        · have hx : Q[k]? = some (Q[k]'(by rw [HQL.out]; exact hkm)) := List.getElem?_eq_getElem _
          generalize Q[k]'(by rw [HQL.out]; exact hkm) = q at hx
          have hQr := HQ.out.below hb
          have hidx := fun W => hQr.idx hkm W
          have HLD := Lib.hid (hQr.load hx)
          obtain ⟨hq1, hq2⟩ := hq q (List.mem_of_getElem? hx)
          obtain ⟨x, y⟩ := q
          dsimp only at hq1 hq2 HLD
          have hk' : (k : Int) < m := by omega
          have hkey : keyOf Tryd.prog 9 (.string ⟨x.toArray⟩) = some (.string x) := Go.WideMaps.keyOf_string_mk Tryd.underlying9 (by rw [size_mk]; unfold maxLen; omega)
          have hat0 := hSE.out.2 x
          obtain ⟨V, hV⟩ : ∃ V : Int, (@ite Int (∃ (j : Nat) (p : Pm), j < k ∧ Q[j]? = some p ∧ p.1 = x) (Classical.propDecidable _) 1 0) = V := ⟨_, rfl⟩
          have hV2 : (V = 0 ∧ ¬ ∃ (j : Nat) (p : Pm), j < k ∧ Q[j]? = some p ∧ p.1 = x) ∨ (V = 1 ∧ ∃ (j : Nat) (p : Pm), j < k ∧ Q[j]? = some p ∧ p.1 = x) := by
            rw [← hV]
            by_cases hc : ∃ (j : Nat) (p : Pm), j < k ∧ Q[j]? = some p ∧ p.1 = x
            · exact .inr ⟨if_pos hc, hc⟩
            · exact .inl ⟨if_neg hc, hc⟩
          rw [hV] at hat0
          have HAT := Lib.hid hat0
          have HX := Lib.hid hx
          have HV2 := Lib.hid hV2
          have hv0 : 0 ≤ V := by omega
          have hv1 : V ≤ 1 := by omega
          have hbs := hb.size
          clear hat0 hV hV2 hx hQr hkm
          go_upto_region 12 with (first
            | (refine wpList_load_run rfl _ _ rfl _ rfl _ HLD.out ?_)
            | (refine wpList_alloc_zero rfl _ rfl (prA [] []) zero_pr ?_; intro w4 hg4 hb4 hz4; clear hz4)
            | (refine wpList_store_all rfl _ _ _ rfl wr.heap.size rfl _ _ _ rfl hg4 (size_pr _ _) rfl (pr_one _ _) ?_; intro w5 hg5 hgr5 hz5; clear hz5; have hb5 : Below wr.heap.size wr w5 := hb4.grown hgr5 hb4.size (fun g hg => (by obtain rfl := Option.some.inj hg; exact Nat.le_refl _)); have hc0 := (cell_pr hg5).1; have hown5 := ownsMap_below hown hb5)
            | (at_lookup; refine wpList_lookup_own_int _ rfl _ _ 61 rfl 9 3 .i64 lawK Tryd.underlying61 Tryd.underlying3 (zeroE _) b k _ rfl hown5 _ _ rfl hkey ?_; intro v hat hwv; obtain rfl : v = V := by (have h := hat.symm.trans HAT.out; injection h with h; injection h))
            | (at_mapUpdate; refine wpList_mapUpdate_own _ rfl _ _ _ 61 rfl 9 3 lawK Tryd.underlying61 _ b k _ rfl hown5 (by unfold maxLen; omega) _ _ _ rfl rfl hkey _ [] (plainElem_int Tryd.underlying3 (WalkArith.wf_i64 (by omega))) ?_; intro w6 hown6 hgr6))
          have hlb := hown.lt
          have hb6 : Below w.heap.size w w6 := (hb.trans (hb5.mono hbs)).grown hgr6 (hb.trans (hb5.mono hbs)).size (fun g hg => by obtain rfl := Option.some.inj hg; exact hs1)
          have hg6 := (hgr6.block _ (Array.getElem?_eq_some_iff.1 hg5).1 (fun e => by have := Option.some.inj e; omega)).trans hg5
          obtain ⟨hd0, hd1⟩ := cell_pr hg6
          obtain ⟨v2, hrun6, hat6, _⟩ := hown6.lookup_int lawK Tryd.underlying61 Tryd.underlying3 (zeroE _) hkey
          obtain rfl : v2 = v + 1 := by
            rw [atKey_put_same (k := .string x) hSE.out.1 (show WideAt.IsKeyLit (.string x) from trivial)] at hat6
            injection hat6 with h
            injection h with _ h
            exact h.symm
          have HBAD := Lib.hid (fun h => may_bad_q (P := P) HX.out h)
          have hsx := size_mk x
          have hsy := size_mk y
          have HZ := Lib.hid (fun W => has_zero (x ++ y) W)
          clear hat hwv HAT hat6 hg6 hg5 hg4 hb4 hb5 hgr5 hgr6 hc0 hown5 hlb hidx HLD hown
          by_cases hxe : x = []
          · subst hxe
            have HE := Lib.hid (HBAD.out (.inl rfl))
            go_wp2_with fail
            go_ret
            rw [HE.out]
            exact ⟨rfl, hb6⟩
          · have hxi := ne_emp hxe
            obtain ⟨z, hz⟩ : ∃ z, zB (x ++ y) = z := ⟨_, rfl⟩
            rw [hz] at HZ
            clear hsx hsy
            rw [← cat_mk] at HZ
            cases z
            · have HV3 := HV2.out
              rcases HV3 with ⟨rfl, hfr⟩ | ⟨rfl, hdup⟩
              · have hnz := zB_no hz
                have HG : Hid (∀ (j : Nat), j < k + 1 → GoodQ Q j) := fun j hj => by
                  by_cases hjk : j < k
                  · exact hH.out j hjk
                  · obtain rfl : j = k := by omega
                    intro q hq'
                    rw [HX.out] at hq'
                    obtain rfl := Option.some.inj hq'
                    exact ⟨hxe, fun h => hnz (List.mem_append_left _ h), fun h => hnz (List.mem_append_right _ h), fun j p h1 h2 h3 => hfr ⟨j, p, h1, h2, h3⟩⟩
                have HS2 := Lib.hid (seen_step hSE.out HX.out)
                clear hxe hz hfr hnz HBAD
                go_wp2_with fail
                refine (HZ.out _).mono ?_
                rintro e w7 ⟨rfl, rfl⟩
                go_wp2_with fail
                go_roundw
                case rel => exact ⟨k + 1, _, by omega, by go_num, hown6, HS2, hb6, HG⟩
                case measure => simp [intOf]; omega
              · have HE := Lib.hid (HBAD.out (.inr (.inr hdup)))
                clear hxe hz hdup HBAD
                go_wp2_with fail
                refine (HZ.out _).mono ?_
                rintro e w7 ⟨rfl, rfl⟩
                go_wp2_with fail
                go_ret
                rw [HE.out]
                exact ⟨rfl, hb6⟩
            · have HE := Lib.hid (HBAD.out (.inr (.inl hz)))
              clear hxe hz HBAD
              go_wp2_with fail
              refine (HZ.out _).mono ?_
              rintro e w7 ⟨rfl, rfl⟩
              go_wp2_with fail
              go_ret
              rw [HE.out]
              exact ⟨rfl, hb6⟩
        · obtain rfl : k = m := by omega
          have hM : mayF P Q = true := mayF_yes ⟨HGP.out, fun j q hj => hH.out j (by rw [← HQL.out]; exact (List.getElem?_eq_some_iff.1 hj).1) q hj⟩
          have HE := Lib.hid hM
          clear hkm hM hH
          go_wp2_with fail
          go_ret
          rw [HE.out]
          exact ⟨rfl, hb⟩

end Go.Proofs.YteldghiejmpknaaDoor
