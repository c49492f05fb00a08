/-
  Joined texts of this claim's author (each began as a text of its own; each says itself what it holds).
-/
import Derived.Test.YtaopohacelmglaaDoorG02
import Derived.Maps.OwnOps
import Derived.Maps.Views
import Derived.Lib.IndexAny
import Derived.Shelf.Strings.SlTrimAscii
import Derived.Shelf.SlSorted.Search
import Derived.Laws.StructEq
import Derived.Stop.BytesEq
import Derived.Test.YtaopohacelmglaaDoorG00
import Derived.ProofKit
import Derived.OpenShut
import Derived.ShutString
import Derived.ChangeOld
import Derived.Deep.Slices
import Derived.Lib.SmallJoins
import Derived.Deep.Strs
import Derived.Deep.SlicePairs
set_option linter.unusedVariables false
set_option linter.unusedSimpArgs false

/-
  Package target: May.
-/
namespace Go.Proofs.YtaopohacelmglaaDoor.Tg
open Go.RowKit Go.Maps

theorem lawK : Keyed Tryd.prog 9 := string_keyed Tryd.underlying9
theorem zeroE (w : World) : (zeroValue 3).run Tryd.prog w = .ok (.int .i64 0) w := by kernel_rfl
theorem ownsMap_below {H : Type} {P : Program} {k : TypeId} {R : Value → Option (DataW H × List MemPlace)} {w w' : World} {b n : Nat} {D : DataW H} (h : w.ownsMap P k R b n D) (hb : Below w.heap.size w w') : w'.ownsMap P k R b n D := by
  have hlt := h.lt
  obtain ⟨es, clock, hbk, F, hs, hD⟩ := h
  exact ⟨es, clock, (hb.block b hlt).trans hbk, F, hs, hD⟩
abbrev MapAt (w : World) (b n : Nat) (D : DataW Unit) : Prop := w.ownsMap Tryd.prog 9 (plainElem Tryd.prog 3) b n D
/-- Does the text hold a byte 0? -/
def zB (l : List UInt8) : Bool := l.contains 0
theorem zB_no {l : List UInt8} (h : zB l = false) : (0 : UInt8) ∉ l := by simpa [zB] using h
theorem zB_yes {l : List UInt8} (h : zB l = true) : (0 : UInt8) ∈ l := by simpa [zB] using h
theorem has_zero (l : List UInt8) (W : World) : Calls Tryd.prog 60 #[.string ⟨l.toArray⟩, .string ⟨#[0]⟩] W fun e w' => e = .returned (.bool (zB l)) ∧ w' = W := by
  have := Tryd.strings_Contains_one ⟨l.toArray⟩ 0 W
  have e : zB l = decide (0 ≤ Lib.indexByte l 0) := Lib.contains_iff_indexByte l 0
  rw [e]
  exact this
open Classical in
/-- How often names ahead of k are counted. -/
def Seen (Q : List Pm) (k : Nat) (D : DataW Unit) : Prop := IsMap D ∧ ∀ l : List UInt8, D.atKey (.string l) (.lit (.int .i64 0)) = .lit (.int .i64 (if ∃ (j : Nat) (p : Pm), j < k ∧ Q[j]? = some p ∧ p.1 = l then 1 else 0))
open Classical in
theorem seen_start (Q : List Pm) : Seen Q 0 (.map []) := by
  refine ⟨isMap_empty, fun l => ?_⟩
  rw [if_neg (by rintro ⟨j, p, h, _⟩; omega)]
  rfl
open Classical in
theorem seen_step {Q : List Pm} {k : Nat} {D : DataW Unit} {q : Pm} (h : Seen Q k D) (hx : Q[k]? = some q) : Seen Q (k + 1) (D.put (.string q.1) (.lit (.int .i64 1))) := by
  refine ⟨h.1.put _ _, fun l => ?_⟩
  by_cases hl : l = q.1
  · subst hl
    rw [atKey_put_same (k := .string q.1) h.1 (show WideAt.IsKeyLit (.string q.1) from trivial), if_pos ⟨k, q, by omega, hx, rfl⟩]
  · have hne : (Lit.string l) ≠ .string q.1 := fun e => hl (by injection e)
    rw [atKey_put_other hne, h.2 l]
    by_cases hc : ∃ (j : Nat) (p : Pm), j < k ∧ Q[j]? = some p ∧ p.1 = l
    · obtain ⟨j, p, h1, h2, h3⟩ := hc
      rw [if_pos ⟨j, p, h1, h2, h3⟩, if_pos ⟨j, p, by omega, h2, h3⟩]
    · rw [if_neg hc, if_neg]
      rintro ⟨j, p, h1, h2, h3⟩
      by_cases hj : j = k
      · subst hj
        rw [hx] at h2
        obtain rfl := Option.some.inj h2
        exact hl h3.symm
      · exact hc ⟨j, p, by omega, h2, h3⟩
theorem may_bad_p {P : List (List UInt8)} {Q : List Pm} {k : Nat} {p : List UInt8} (hx : P[k]? = some p) (h : p = [] ∨ zB p = true) : mayF P Q = false := mayF_no fun hM => by
  have := hM.1 p (List.mem_of_getElem? hx)
  rcases h with h | h
  · exact this.1 h
  · exact this.2 (zB_yes h)
theorem may_bad_q {P : List (List UInt8)} {Q : List Pm} {k : Nat} {q : Pm} (hx : Q[k]? = some q) (h : q.1 = [] ∨ zB (q.1 ++ q.2) = true ∨ ∃ (j : Nat) (p : Pm), j < k ∧ Q[j]? = some p ∧ p.1 = q.1) : mayF P Q = false := mayF_no fun hM => by
  obtain ⟨h1, h2, h3, h4⟩ := hM.2 k q hx
  rcases h with h | h | ⟨j, p, a, b, c⟩
  · exact h1 h
  · have := zB_yes h
    rcases List.mem_append.1 this with h | h
    · exact h2 h
    · exact h3 h
  · exact h4 j p a b c

theorem cat_mk (a b : List UInt8) : (⟨a.toArray⟩ : ByteArray) ++ ⟨b.toArray⟩ = ⟨(a ++ b).toArray⟩ := by
  apply ByteArray.ext
  simp

set_option maxRecDepth 20000 in
set_option maxHeartbeats 8000000 in
theorem May_any {w : World} {A B : Option Addr} {n c m d : Nat} {P : List (List UInt8)} {Q : List Pm} (hS : Ss w A n c P) (hQ : Ps w B m d Q)
    (hp : ∀ p ∈ P, p.length ≤ 1048576) (hq : ∀ q ∈ Q, q.1.length ≤ 1048576 ∧ q.2.length ≤ 1048576) (hm : m ≤ 1048577) :
    Calls Tryd.prog 37 #[.agg (tgA A n c B m d)] w fun e w' => e = .returned (.bool (mayF P Q)) ∧ Below w.heap.size w w' := by
  have hmm := @run_makeMap Tryd.prog
  have hPl : P.length = n := by have := Rd.len hS; simpa using this
  have hQl := hQ.len
  have HPL := Lib.hid hPl
  have HQL := Lib.hid hQl
  have HQ := Lib.hid hQ
  have hnil := Rd.nil hS
  have hle := Rd.le hS
  have hmx := Rd.max hS
  unfold maxLen at hmx
  clear hPl hQl
  go_enter Tryd.func37, Tryd.ntmps37
  go_upto_region 1 with (refine wpList_box rfl _ _ rfl (tgA A n c B m d) rfl ?_; intro w1 hg1 hb1 hz1)
  clear hz1
  obtain ⟨hc0, hc1⟩ := cell_tg hg1
  have hS1 := Rd.below hS hb1
  have hs1 := hb1.size
  clear hg1 hS hQ
  go_wp2_with fail
  go_loopw [11] (fun i wr => ∃ k : Nat, k ≤ n ∧ i = .int .i64 k ∧ w1 = wr ∧ Hid (∀ (j : Nat) p, j < k → P[j]? = some p → GoodP p)) (fun i _ => n - (intOf i).toNat)
  case atStart => exact ⟨0, by omega, rfl, rfl, (show ∀ (j : Nat) p, j < 0 → _ from fun j p h => absurd h (by omega))⟩
  case round =>
    obtain ⟨k, hk, rfl, rfl, hH⟩ := hrel
    by_cases hkn : k < n
    · have hx : P[k]? = some (P[k]'(by rw [HPL.out]; exact hkn)) := List.getElem?_eq_getElem _
      generalize P[k]'(by rw [HPL.out]; exact hkn) = p at hx
      have hidx := run_index_rd (P := Tryd.prog) (A := A) (n := n) (c := c) es hnil hle k hkn
      rw [Nat.mul_one] at hidx
      have hcell := Rd.cell hS1 k (strV p) (by rw [List.getElem?_map, hx]; rfl)
      unfold strV at hcell
      have hk' : (k : Int) < n := by omega
      have HZ := Lib.hid (fun W => has_zero p W)
      by_cases hpe : p = []
      · subst hpe
        have HE := Lib.hid (may_bad_p (Q := Q) hx (.inl rfl))
        clear hx hkn hH
        go_wp2_with fail
        go_ret
        rw [HE.out]
        exact ⟨rfl, hb1⟩
      · have hpi := ne_emp hpe
        obtain ⟨z, hz⟩ : ∃ z, zB p = z := ⟨_, rfl⟩
        rw [hz] at HZ
        cases z
        · have HN : Hid (∀ (j : Nat) q, j < k + 1 → P[j]? = some q → GoodP q) := fun j q hj hg => by
            by_cases hjk : j < k
            · exact hH.out j q hjk hg
            · obtain rfl : j = k := by omega
              rw [hx] at hg
              obtain rfl := Option.some.inj hg
              exact ⟨hpe, zB_no hz⟩
          clear hx hkn hH hpe hz
          go_wp2_with fail
          refine (HZ.out _).mono ?_
          rintro e w2 ⟨rfl, rfl⟩
          go_wp2_with fail
          go_roundw
          case rel => exact ⟨k + 1, by omega, by go_num, by trivial, HN⟩
          case measure => simp [intOf]; omega
        · have HE := Lib.hid (may_bad_p (Q := Q) hx (.inr hz))
          clear hx hkn hH hpe hz
          go_wp2_with fail
          refine (HZ.out _).mono ?_
          rintro e w2 ⟨rfl, rfl⟩
          go_wp2_with fail
          go_ret
          rw [HE.out]
          exact ⟨rfl, hb1⟩
    · obtain rfl : k = n := by omega
      have hGP : ∀ p ∈ P, GoodP p := fun p hp => by
        obtain ⟨j, hj⟩ := List.mem_iff_getElem?.1 hp
        exact hH.out j p (by rw [← HPL.out]; exact (List.getElem?_eq_some_iff.1 hj).1) hj
      have HGP := Lib.hid hGP
      have hown : MapAt (w1.alloc (.map #[] 0)) w1.heap.size 0 (.map []) := World.ownsMap_made _ _ _ _
      have hbm : Below w.heap.size w (w1.alloc (.map #[] 0)) := hb1.alloc hs1 _
      have hc2 : (w1.alloc (.map #[] 0)).cell? ⟨w.heap.size, 1, none⟩ = some (.slice B m d) := by
        have hlt := World.block_lt_of_cell? w1 _ hc1
        rw [← hc1]
        exact World.cell?_of_block (Below.heap_alloc w1 _ _ hlt)
      clear hkn hH hGP hc0 hc1 hS1 hb1
      go_wp2_with fail
      obtain ⟨w2, hw2⟩ : ∃ w2, w1.alloc (.map #[] 0) = w2 := ⟨_, rfl⟩
      obtain ⟨b, hb⟩ : ∃ b, w1.heap.size = b := ⟨_, rfl⟩
      rw [hw2, hb] at hown
      rw [hw2] at hbm hc2
      rw [hb] at hs1
      simp only [hw2, hb]
      clear hw2 hb hc2
      go_loopw [26] (fun i wr => ∃ (k : Nat) (D : DataW Unit), k ≤ m ∧ i = .int .i64 k ∧ MapAt wr b k D ∧ Hid (Seen Q k D) ∧ Below w.heap.size w wr ∧ Hid (∀ (j : Nat), j < k → GoodQ Q j)) (fun i _ => m - (intOf i).toNat)
      case atStart => exact ⟨0, _, by omega, rfl, hown, seen_start Q, hbm, (show ∀ (j : Nat), j < 0 → _ from fun j h => absurd h (by omega))⟩
      case round =>
        obtain ⟨k, D, hk, rfl, hown, hSE, hb, hH⟩ := hrel
        by_cases hkm : k < m
        · have hx : Q[k]? = some (Q[k]'(by rw [HQL.out]; exact hkm)) := List.getElem?_eq_getElem _
          generalize Q[k]'(by rw [HQL.out]; exact hkm) = q at hx
          have hQr := HQ.out.below hb
          have hidx := fun W => hQr.idx hkm W
          have HLD := Lib.hid (hQr.load hx)
          obtain ⟨hq1, hq2⟩ := hq q (List.mem_of_getElem? hx)
          obtain ⟨x, y⟩ := q
          dsimp only at hq1 hq2 HLD
          have hk' : (k : Int) < m := by omega
          have hkey : keyOf Tryd.prog 9 (.string ⟨x.toArray⟩) = some (.string x) := Go.WideMaps.keyOf_string_mk Tryd.underlying9 (by rw [size_mk]; unfold maxLen; omega)
          have hat0 := hSE.out.2 x
          obtain ⟨V, hV⟩ : ∃ V : Int, (@ite Int (∃ (j : Nat) (p : Pm), j < k ∧ Q[j]? = some p ∧ p.1 = x) (Classical.propDecidable _) 1 0) = V := ⟨_, rfl⟩
          have hV2 : (V = 0 ∧ ¬ ∃ (j : Nat) (p : Pm), j < k ∧ Q[j]? = some p ∧ p.1 = x) ∨ (V = 1 ∧ ∃ (j : Nat) (p : Pm), j < k ∧ Q[j]? = some p ∧ p.1 = x) := by
            rw [← hV]
            by_cases hc : ∃ (j : Nat) (p : Pm), j < k ∧ Q[j]? = some p ∧ p.1 = x
            · exact .inr ⟨if_pos hc, hc⟩
            · exact .inl ⟨if_neg hc, hc⟩
          rw [hV] at hat0
          have HAT := Lib.hid hat0
          have HX := Lib.hid hx
          have HV2 := Lib.hid hV2
          have hv0 : 0 ≤ V := by omega
          have hv1 : V ≤ 1 := by omega
          have hbs := hb.size
          clear hat0 hV hV2 hx hQr hkm
          go_upto_region 12 with (first
            | (refine wpList_load_run rfl _ _ rfl _ rfl _ HLD.out ?_)
            | (refine wpList_alloc_zero rfl _ rfl (prA [] []) zero_pr ?_; intro w4 hg4 hb4 hz4; clear hz4)
            | (refine wpList_store_all rfl _ _ _ rfl wr.heap.size rfl _ _ _ rfl hg4 (size_pr _ _) rfl (pr_one _ _) ?_; intro w5 hg5 hgr5 hz5; clear hz5; have hb5 : Below wr.heap.size wr w5 := hb4.grown hgr5 hb4.size (fun g hg => (by obtain rfl := Option.some.inj hg; exact Nat.le_refl _)); have hc0 := (cell_pr hg5).1; have hown5 := ownsMap_below hown hb5)
            | (at_lookup; refine wpList_lookup_own_int _ rfl _ _ 103 rfl 9 3 .i64 lawK Tryd.underlying103 Tryd.underlying3 (zeroE _) b k _ rfl hown5 _ _ rfl hkey ?_; intro v hat hwv; obtain rfl : v = V := by (have h := hat.symm.trans HAT.out; injection h with h; injection h))
            | (at_mapUpdate; refine wpList_mapUpdate_own _ rfl _ _ _ 103 rfl 9 3 lawK Tryd.underlying103 _ b k _ rfl hown5 (by unfold maxLen; omega) _ _ _ rfl rfl hkey _ [] (plainElem_int Tryd.underlying3 (WalkArith.wf_i64 (by omega))) ?_; intro w6 hown6 hgr6))
          have hlb := hown.lt
          have hb6 : Below w.heap.size w w6 := (hb.trans (hb5.mono hbs)).grown hgr6 (hb.trans (hb5.mono hbs)).size (fun g hg => by obtain rfl := Option.some.inj hg; exact hs1)
          have hg6 := (hgr6.block _ (Array.getElem?_eq_some_iff.1 hg5).1 (fun e => by have := Option.some.inj e; omega)).trans hg5
          obtain ⟨hd0, hd1⟩ := cell_pr hg6
          obtain ⟨v2, hrun6, hat6, _⟩ := hown6.lookup_int lawK Tryd.underlying103 Tryd.underlying3 (zeroE _) hkey
          obtain rfl : v2 = v + 1 := by
            rw [atKey_put_same (k := .string x) hSE.out.1 (show WideAt.IsKeyLit (.string x) from trivial)] at hat6
            injection hat6 with h
            injection h with _ h
            exact h.symm
          have HBAD := Lib.hid (fun h => may_bad_q (P := P) HX.out h)
          have hsx := size_mk x
          have hsy := size_mk y
          have HZ := Lib.hid (fun W => has_zero (x ++ y) W)
          clear hat hwv HAT hat6 hg6 hg5 hg4 hb4 hb5 hgr5 hgr6 hc0 hown5 hlb hidx HLD hown
          by_cases hxe : x = []
          · subst hxe
            have HE := Lib.hid (HBAD.out (.inl rfl))
            go_wp2_with fail
            go_ret
            rw [HE.out]
            exact ⟨rfl, hb6⟩
          · have hxi := ne_emp hxe
            obtain ⟨z, hz⟩ : ∃ z, zB (x ++ y) = z := ⟨_, rfl⟩
            rw [hz] at HZ
            clear hsx hsy
            rw [← cat_mk] at HZ
            cases z
            · have HV3 := HV2.out
              rcases HV3 with ⟨rfl, hfr⟩ | ⟨rfl, hdup⟩
              · have hnz := zB_no hz
                have HG : Hid (∀ (j : Nat), j < k + 1 → GoodQ Q j) := fun j hj => by
                  by_cases hjk : j < k
                  · exact hH.out j hjk
                  · obtain rfl : j = k := by omega
                    intro q hq'
                    rw [HX.out] at hq'
                    obtain rfl := Option.some.inj hq'
                    exact ⟨hxe, fun h => hnz (List.mem_append_left _ h), fun h => hnz (List.mem_append_right _ h), fun j p h1 h2 h3 => hfr ⟨j, p, h1, h2, h3⟩⟩
                have HS2 := Lib.hid (seen_step hSE.out HX.out)
                clear hxe hz hfr hnz HBAD
                go_wp2_with fail
                refine (HZ.out _).mono ?_
                rintro e w7 ⟨rfl, rfl⟩
                go_wp2_with fail
                go_roundw
                case rel => exact ⟨k + 1, _, by omega, by go_num, hown6, HS2, hb6, HG⟩
                case measure => simp [intOf]; omega
              · have HE := Lib.hid (HBAD.out (.inr (.inr hdup)))
                clear hxe hz hdup HBAD
                go_wp2_with fail
                refine (HZ.out _).mono ?_
                rintro e w7 ⟨rfl, rfl⟩
                go_wp2_with fail
                go_ret
                rw [HE.out]
                exact ⟨rfl, hb6⟩
            · have HE := Lib.hid (HBAD.out (.inr (.inl hz)))
              clear hxe hz HBAD
              go_wp2_with fail
              refine (HZ.out _).mono ?_
              rintro e w7 ⟨rfl, rfl⟩
              go_wp2_with fail
              go_ret
              rw [HE.out]
              exact ⟨rfl, hb6⟩
        · obtain rfl : k = m := by omega
          have hM : mayF P Q = true := mayF_yes ⟨HGP.out, fun j q hj => hH.out j (by rw [← HQL.out]; exact (List.getElem?_eq_some_iff.1 hj).1) q hj⟩
          have HE := Lib.hid hM
          clear hkm hM hH
          go_wp2_with fail
          go_ret
          rw [HE.out]
          exact ⟨rfl, hb⟩

end Go.Proofs.YtaopohacelmglaaDoor.Tg

/-
  Package target: query.
-/
namespace Go.Proofs.YtaopohacelmglaaDoor.Tg
open Go.RowKit

def Queried (s : List UInt8) (w : World) (e : Ending) (w' : World) : Prop :=
  Below w.heap.size w w' ∧ ((queryF s = none ∧ e = .returned (.tuple #[.slice none 0 0, .bool false])) ∨ ∃ Q A n c, queryF s = some Q ∧ e = .returned (.tuple #[.slice A n c, .bool true]) ∧ Own w' w.heap.size 91 2 A n c (prL Q) ∧ n ≤ s.length + 1)
theorem parF_parts (s : List UInt8) : ((cut1 61 s).2.2 = false ∧ parF s = none) ∨ ((cut1 61 s).2.2 = true ∧ partB (cut1 61 s).1 = false ∧ parF s = none) ∨ ((cut1 61 s).2.2 = true ∧ partB (cut1 61 s).1 = true ∧ partB (cut1 61 s).2.1 = false ∧ parF s = none) ∨
    ((cut1 61 s).2.2 = true ∧ partB (cut1 61 s).1 = true ∧ partB (cut1 61 s).2.1 = true ∧ partS (cut1 61 s).1 = [] ∧ parF s = none) ∨
    ((cut1 61 s).2.2 = true ∧ partB (cut1 61 s).1 = true ∧ partB (cut1 61 s).2.1 = true ∧ partS (cut1 61 s).1 ≠ [] ∧ parF s = some (partS (cut1 61 s).1, partS (cut1 61 s).2.1)) := by
  have hn := nameF_parts (cut1 61 s).1
  unfold parF
  cases hc : (cut1 61 s).2.2
  · exact .inl ⟨rfl, rfl⟩
  · simp only [if_true]
    rcases hn with ⟨h1, h2⟩ | ⟨h1, h2, h3⟩ | ⟨h1, h2, h3⟩
    · exact .inr (.inl ⟨by trivial, h1, by rw [h2]; rfl⟩)
    · by_cases hb : partB (cut1 61 s).2.1 = true
      · exact .inr (.inr (.inr (.inl ⟨by trivial, h1, hb, h2, by rw [h3]; rfl⟩)))
      · exact .inr (.inr (.inl ⟨by trivial, h1, by simpa using hb, by rw [h3]; rfl⟩))
    · have hv : ∀ t, (partB t = false ∧ partF t = none) ∨ (partB t = true ∧ partF t = some (partS t)) := fun t => by
        unfold partB partS
        cases partF t with
        | none => exact .inl ⟨rfl, rfl⟩
        | some o => exact .inr ⟨rfl, rfl⟩
      rcases hv (cut1 61 s).2.1 with ⟨v1, v2⟩ | ⟨v1, v2⟩
      · exact .inr (.inr (.inl ⟨by trivial, h1, v1, by rw [h3, v2]; rfl⟩))
      · exact .inr (.inr (.inr (.inr ⟨by trivial, h1, v1, h2, by rw [h3, v2]; rfl⟩)))

set_option maxRecDepth 20000 in
set_option maxHeartbeats 8000000 in
theorem query_any (s : List UInt8) (hs : s.length ≤ 1048576) (w : World) (hm : Mx w) : Calls Tryd.prog 36 #[.string ⟨s.toArray⟩] w (Queried s w) := by
  have HSP := Lib.hid (Split_any 38 s (by omega) w hm)
  have HCUT := Lib.hid (fun (p : List UInt8) (hp : p.length ≤ 1048576) W (hb : Below w.heap.size w W) => Cut_any 61 p (by omega) W (hm.below hb))
  obtain ⟨hpl, hpe⟩ := split1_le 38 s
  have hpf : queryF s = mapP parF (split1 38 s) := rfl
  obtain ⟨P, hP⟩ : ∃ P, split1 38 s = P := ⟨_, rfl⟩
  rw [hP] at HSP hpl hpe hpf
  have HPF := Lib.hid hpf
  obtain ⟨N, hN⟩ : ∃ N, P.length = N := ⟨_, rfl⟩
  rw [hN] at HSP hpl
  have HN := Lib.hid hN
  have hN1 : N ≤ 1048577 := by omega
  have HPL := Lib.hid hpl
  have HPE := Lib.hid (fun p hp => (Nat.le_trans (hpe p hp) (by omega) : p.length ≤ 1048576))
  clear hP hN hm hpe hpl hs hpf
  go_enter Tryd.func36, Tryd.ntmps36
  go_wp2_with fail
  refine HSP.out.mono ?_
  rintro e w1 ⟨rfl, hw1⟩
  have hrd : Rd w1 1 (some ⟨w.heap.size, 0, none⟩) N N (P.map strV) := by
    rw [hw1]
    exact Rd.lit w _ _ N (by rw [List.length_map, HN.out]) (by unfold maxLen; omega)
  have hb1 : Below w.heap.size w w1 := by rw [hw1]; exact (Below.refl _ _).alloc (Nat.le_refl _) _
  clear hw1
  obtain ⟨A1, hA1⟩ : ∃ A1, (some ⟨w.heap.size, 0, none⟩ : Option Addr) = A1 := ⟨_, rfl⟩
  rw [hA1] at hrd ⊢
  have hs1 := hb1.size
  clear hA1 HSP
  go_wp2_with fail
  go_loopw [4, 17] (fun l i wr => ∃ (k : Nat) (A : Option Addr) (n c : Nat) (o : List Pm), k ≤ N ∧ l = .slice A n c ∧ i = .int .i64 k ∧ Own wr w1.heap.size 91 2 A n c (prL o) ∧ n = k ∧ Hid (mapK parF P k o) ∧ Below w1.heap.size w1 wr) (fun _ i _ => N - (intOf i).toNat)
  case atStart => exact ⟨0, none, 0, 0, [], by omega, rfl, rfl, Own.nil_ _ _ _ _, rfl, mapK_start _ _, Below.refl _ _⟩
  case round =>
    obtain ⟨k, A, n, c, o, hk, rfl, rfl, ho, hn, hH, hb⟩ := hrel
    by_cases hkN : k < N
    · have hx : P[k]? = some (P[k]'(by rw [HN.out]; exact hkN)) := List.getElem?_eq_getElem _
      generalize P[k]'(by rw [HN.out]; exact hkN) = p at hx
      have hidx := run_index_rd (P := Tryd.prog) (A := A1) (n := N) (c := N) es hrd.nil hrd.le k hkN
      rw [Nat.mul_one] at hidx
      have hcell := (hrd.below hb).cell k (strV p) (by rw [List.getElem?_map, hx]; rfl)
      have hpl := HPE.out p (List.mem_of_getElem? hx)
      have HC := Lib.hid (HCUT.out p hpl wr (hb1.trans (hb.mono hs1)))
      have hcs := parF_parts p
      have hcl := cut1_le 61 p
      obtain ⟨⟨a, b, f⟩, hC⟩ : ∃ X, cut1 61 p = X := ⟨_, rfl⟩
      rw [hC] at HC hcs hcl
      dsimp only at HC hcs hcl
      have HA := Lib.hid (fun W => part_any a (by omega) W)
      have HB := Lib.hid (fun W => part_any b (by omega) W)
      unfold Parted at HA HB
      obtain ⟨qa, hqa⟩ : ∃ q, partS a = q := ⟨_, rfl⟩
      obtain ⟨fa, hfa⟩ : ∃ f, partB a = f := ⟨_, rfl⟩
      obtain ⟨qb, hqb⟩ : ∃ q, partS b = q := ⟨_, rfl⟩
      obtain ⟨fb, hfb⟩ : ∃ f, partB b = f := ⟨_, rfl⟩
      rw [hqa, hfa] at HA
      rw [hqb, hfb] at HB
      rw [hqa, hfa, hqb, hfb] at hcs
      have hk' : (k : Int) < N := by omega
      have hs1r := hb.size
      unfold strV at hcell
      have hbad : parF p = none → queryF s = none := fun h => HPF.out.trans (mapK_bad hH.out hx h)
      have HBAD := Lib.hid hbad
      have hgood : ∀ y, parF p = some y → mapK parF P (k + 1) (o ++ [y]) := fun y h => mapK_step hH.out hx h
      have HGOOD := Lib.hid hgood
      have HNK := Lib.hid hn
      have hn2 : n + 1 ≤ 1048578 := by omega
      clear hx hkN hqa hfa hqb hfb hH hn hbad hgood hC hcl hpl
      rcases hcs with ⟨rfl, hno⟩ | ⟨rfl, rfl, hno⟩ | ⟨rfl, rfl, rfl, hno⟩ | ⟨rfl, rfl, rfl, rfl, hno⟩ | ⟨rfl, rfl, rfl, hqe, hyes⟩
      iterate 4
        · have HE := Lib.hid (HBAD.out hno)
          clear hno
          go_wp2_with fail
          refine HC.out.mono ?_
          rintro e w2 ⟨rfl, hb2⟩
          have hb12 := hb.trans (hb2.mono hb.size)
          clear hb2
          go_wp2_with fail
          refine (HA.out _).mono ?_
          rintro e w3 ⟨rfl, hb3⟩
          have hb13 := hb12.trans (hb3.mono hb12.size)
          clear hb3
          go_wp2_with fail
          refine (HB.out _).mono ?_
          rintro e w4 ⟨rfl, hb4⟩
          have hb14 := hb1.trans ((hb13.trans (hb4.mono hb13.size)).mono hs1)
          clear hb4
          go_wp2_with fail
          go_ret2
          exact ⟨hb14, .inl ⟨HE.out, rfl⟩⟩
      have HN2 := Lib.hid (HGOOD.out _ hyes)
      have hqi := ne_emp hqe
      clear hyes hqe
      go_wp2_with fail
      refine HC.out.mono ?_
      rintro e w2 ⟨rfl, hb2⟩
      have hb12 := hb.trans (hb2.mono hb.size)
      have ho2 := ho.below hb2
      clear hb2
      go_wp2_with fail
      refine (HA.out _).mono ?_
      rintro e w3 ⟨rfl, hb3⟩
      have hb13 := hb12.trans (hb3.mono hb12.size)
      have ho3 := ho2.below hb3
      clear hb3
      go_wp2_with fail
      refine (HB.out _).mono ?_
      rintro e w4 ⟨rfl, hb4⟩
      have hb14 := hb13.trans (hb4.mono hb13.size)
      have ho4 := ho3.below hb4
      have hs14 := hb14.size
      clear hb4
      go_wp2_with (first
        | (refine wpList_litP (u := qa) (v := qb) rfl rfl rfl ?_; intro w5 hw5; have hr5 := litP_own hw5 ho4; have hl5 := litP_rd hw5; have hb5 := litP_below hw5 hb14 hs14; have hs5 := hb5.size; clear hw5)
        | (at_builtin; refine wpList_app rfl _ _ rfl ep hr5 rfl hl5 rfl (prL_one _) (by omega) (by unfold maxLen; omega) hs5 ?_; intro A6 c6 w6 ho6 hg6 hq6; have hb6 := below_apps hb5 (Nat.le_refl _) hr5 hg6))
      have ho7 : Own w6 w1.heap.size 91 2 A6 (n + 1) c6 (prL (o ++ [(qa, qb)])) := by
        rw [prL_app]
        exact ho6
      go_roundw
      case rel => exact ⟨k + 1, A6, n + 1, c6, o ++ [(qa, qb)], by omega, rfl, by go_num, ho7, by rw [HNK.out], HN2, hb6⟩
      case measure => simp [intOf]; omega
    · obtain rfl : k = N := by omega
      have hend : mapP parF P = some o := mapK_end (by rw [HN.out]; exact hH.out)
      have HE := Lib.hid (HPF.out.trans hend)
      clear hkN hend hH
      go_wp2_with fail
      go_ret2
      exact ⟨hb1.trans (hb.mono hs1), .inr ⟨o, A, n, c, HE.out, rfl, ho.mono hs1, by have := HPL.out; omega⟩⟩

end Go.Proofs.YtaopohacelmglaaDoor.Tg

/-
  Package target: Parse.
-/
namespace Go.Proofs.YtaopohacelmglaaDoor.Tg
open Go.RowKit

theorem results_cell_tmp {P : Program} {fn : Func} {p q : Tmp} {ty : TypeId} (h : fn.results = #[.cell p ty, .tmp q]) (tmps : Array Value) (w : World) (g : Nat) (t : TypeId) (cs : Array Value) (fr : Nat × Nat) (d : TypeDesc)
    (hp : tmps.getD p undef = .pointer (some ⟨g, 0, none⟩)) (hg : w.heap[g]? = some (.cells cs t fr))
    (hu : P.underlying ty = some d) (hd : (match d with | .struct _ | .array _ _ => true | _ => false) = true) (hi : (P.info? ty).map (·.size) = some cs.size) (v : Value) (hv : tmps.getD q undef = v) :
    (results fn tmps).run P w = .ok (.tuple #[.agg cs, v]) w := by
  have hp' : tmps[p]?.getD undef = .pointer (some ⟨g, 0, none⟩) := by simpa using hp
  have hv' : tmps[q]?.getD undef = v := by simpa using hv
  simp [results, h, hp', hv', asAddr, run_loadVar_row w g t ty cs fr d hg hu hd hi]

theorem heap_setCell_ne {w : World} {g i k : Nat} (v : Value) (h : g ≠ k) : (w.setCell ⟨g, i, none⟩ v).heap[k]? = w.heap[k]? := by
  simp [World.setCell, Array.getElem?_modify, h]
theorem frozen_of {w : World} {g i : Nat} {cs : Array Value} {t : TypeId} (h : w.heap[g]? = some (.cells cs t (0, 0))) : w.frozen? ⟨g, i, none⟩ = false := by
  simp [World.frozen?, h]
section
variable {w : World} {g : Nat} {A B A' : Option Addr} {n c m d n' c' : Nat} {t : TypeId}
theorem tg_set0 (h : w.heap[g]? = some (.cells (tgA A n c B m d) t (0, 0))) : (w.setCell ⟨g, 0, none⟩ (.slice A' n' c')).heap[g]? = some (.cells (tgA A' n' c' B m d) t (0, 0)) := by
  rw [setCell_eq_setRow w g 0 _ t (0, 0) _ h]
  exact setRow_heap w g _ _ t (0, 0) h
theorem tg_set1 (h : w.heap[g]? = some (.cells (tgA A n c B m d) t (0, 0))) : (w.setCell ⟨g, 1, none⟩ (.slice A' n' c')).heap[g]? = some (.cells (tgA A n c A' n' c') t (0, 0)) := by
  rw [setCell_eq_setRow w g 1 _ t (0, 0) _ h]
  exact setRow_heap w g _ _ t (0, 0) h
end
theorem build_tg0 (W : World) : (Instr.build 51 #[]).run Tryd.prog W = .ok (.agg tgZ) W := by kernel_rfl
def Parsed (s : List UInt8) (w : World) (e : Ending) (w' : World) : Prop :=
  Below w.heap.size w w' ∧ ∃ A n c B m d, e = .returned (.tuple #[.agg (tgA A n c B m d), .int .i64 (parseF s).2.2]) ∧ Own w' w.heap.size 9 1 A n c ((parseF s).1.map strV) ∧ Own w' w.heap.size 91 2 B m d (prL (parseF s).2.1)
theorem parsed_bad {s : List UInt8} {w w' : World} {E : Nat} (h : parseF s = ([], [], E)) (hb : Below w.heap.size w w') : Parsed s w (.returned (.tuple #[.agg tgZ, .int .i64 E])) w' := by
  refine ⟨hb, none, 0, 0, none, 0, 0, ?_, ?_, ?_⟩
  · rw [h]
    rfl
  · rw [h]
    exact Own.nil_ _ _ _ _
  · rw [h]
    exact Own.nil_ _ _ _ _
theorem mapP_mem {β : Type} {f : List UInt8 → Option β} : ∀ {P : List (List UInt8)} {o : List β}, mapP f P = some o → ∀ y ∈ o, ∃ p ∈ P, f p = some y
  | [], o, h, y, hy => by
    obtain rfl := Option.some.inj h
    cases hy
  | p :: P, o, h, y, hy => by
    obtain ⟨z, hz, h2⟩ := Option.bind_eq_some_iff.1 h
    obtain ⟨o2, h3, rfl⟩ := Option.map_eq_some_iff.1 h2
    rcases List.mem_cons.1 hy with rfl | hy
    · exact ⟨p, by simp, hz⟩
    · obtain ⟨q, hq, hf⟩ := mapP_mem h3 y hy
      exact ⟨q, by simp [hq], hf⟩
theorem path_le {s : List UInt8} {P : List (List UInt8)} (h : pathF s = some P) : ∀ p ∈ P, p.length ≤ s.length := by
  unfold pathF at h
  split at h
  · obtain rfl := Option.some.inj h
    intro p hp
    cases hp
  · split at h
    · cases h
    · split at h
      · intro p hp
        obtain ⟨q, hq, hf⟩ := mapP_mem h p hp
        have h1 := (split1_le 47 _).2 q hq
        have h2 := part_le (nameF_some hf).1
        simp
        omega
      · cases h
theorem query_le {s : List UInt8} {Q : List Pm} (h : queryF s = some Q) : ∀ q ∈ Q, q.1.length ≤ s.length ∧ q.2.length ≤ s.length := by
  intro q hq
  obtain ⟨x, hx, hf⟩ := mapP_mem h q hq
  have h1 := (split1_le 38 _).2 x hx
  unfold parF at hf
  split at hf
  · obtain ⟨n, hn, h2⟩ := Option.bind_eq_some_iff.1 hf
    obtain ⟨v, hv, rfl⟩ := Option.map_eq_some_iff.1 h2
    have h3 := part_le (nameF_some hn).1
    have h4 := part_le hv
    have h5 := cut1_le 61 x
    dsimp only
    omega
  · cases hf

set_option maxRecDepth 20000 in
set_option maxHeartbeats 8000000 in
theorem Parse_any (s : List UInt8) (hs : s.length ≤ 1048575) (w : World) (hm : Mx w) : Calls Tryd.prog 18 #[.string ⟨s.toArray⟩] w (Parsed s w) := by
  have HM := Lib.hid hm
  have HC := Lib.hid (fun W (hb : Below w.heap.size w W) => Cut_any 63 s (by omega) W (hm.below hb))
  have hcl := cut1_le 63 s
  have hpf : ∀ X, cut1 63 s = X → parseF s = (match pathF X.1 with
    | none => ([], [], 4)
    | some P => contEnd P X.2.1 X.2.2) := fun X h => by rw [← h]; rfl
  obtain ⟨⟨a, b, f⟩, hX⟩ : ∃ X, cut1 63 s = X := ⟨_, rfl⟩
  rw [hX] at HC hcl
  have HPF := Lib.hid (hpf _ hX)
  dsimp only at HC hcl HPF
  have HPA := Lib.hid (fun W (hb : Below w.heap.size w W) => path_any a (by omega) W (hm.below hb))
  have HQU := Lib.hid (fun W (hb : Below w.heap.size w W) => query_any b (by omega) W (hm.below hb))
  have hla : a.length ≤ 1048575 := by omega
  have hlb : b.length ≤ 1048575 := by omega
  clear hm hcl hpf hX
  go_enter Tryd.func18, Tryd.ntmps18
  go_upto_region 1 with (refine wpList_alloc_zero rfl _ rfl tgZ zero_tg ?_; intro w1 hg1 hb1 hz1)
  have hlt1 : w.heap.size < w1.heap.size := (Array.getElem?_eq_some_iff.1 hg1).1
  clear hz1
  go_wp2_with fail
  refine (HC.out _ hb1).mono ?_
  rintro e w2 ⟨rfl, hbl2⟩
  have hb2 := hb1.trans (hbl2.mono hb1.size)
  have hR2 := (hbl2.block _ hlt1).trans hg1
  have hlt2 : w.heap.size < w2.heap.size := (Array.getElem?_eq_some_iff.1 hR2).1
  clear hbl2 hg1 hb1 hlt1
  go_upto_region 3 with (refine wpList_alloc_zero rfl _ rfl tgZ zero_tg ?_; intro w3 hg3 hbl3 hz3)
  have hb3 := hb2.trans (hbl3.mono hb2.size)
  have hR3 := (hbl3.block _ hlt2).trans hR2
  have hlt3 : w2.heap.size < w3.heap.size := (Array.getElem?_eq_some_iff.1 hg3).1
  obtain ⟨g, hg⟩ : ∃ g, w2.heap.size = g := ⟨_, rfl⟩
  rw [hg] at hg3 hlt3 hlt2 ⊢
  clear hz3 hbl3 hg hb2 hR2
  go_wp2_with fail
  refine (HPA.out _ hb3).mono ?_
  rintro e w4 ⟨hbl4, hcase⟩
  have hb4 := hb3.trans (hbl4.mono hb3.size)
  have hR4 := (hbl4.block _ (Nat.lt_trans hlt2 hlt3)).trans hR3
  have hg4 := (hbl4.block _ hlt3).trans hg3
  have hs34 := hbl4.size
  clear hbl4 hR3 hg3
  have hc40 := (cell_tg (show w4.heap[g]? = some (.cells (tgA none 0 0 none 0 0) _ _) from hg4)).1
  have hf40 := frozen_of (i := 0) hg4
  rcases hcase with ⟨hno, rfl⟩ | ⟨P, A, n, c, hyes, rfl, ho, hn⟩
  · have hpz : parseF s = ([], [], 4) := by rw [HPF.out, hno]
    have HE := Lib.hid hpz
    have hg5 : (w4.setCell ⟨g, 0, none⟩ (.slice none 0 0)).heap[g]? = _ := tg_set0 hg4
    have hR5 := (heap_setCell_ne (w := w4) (g := g) (i := 0) (.slice none 0 0) (show g ≠ w.heap.size by omega)).trans hR4
    have hb5 := hb4.setCell (p := ⟨g, 0, none⟩) (Nat.le_of_lt hlt2) (.slice none 0 0)
    clear hno hpz hR4 hg4 hg5
    go_wp2_with (first
      | (refine wpList_build_run rfl _ _ rfl #[] (by rfl) _ (build_tg0 _) ?_)
      | (refine wpList_store_all rfl _ _ _ rfl w.heap.size rfl _ tgZ tgZ rfl hR5 size_tg0 rfl tg_one ?_; intro wz hgz hgrz hzz; clear hzz))
    refine bodyPost_ret (results_cell_tmp rfl _ _ w.heap.size _ _ _ _ rfl hgz Tryd.underlying51 rfl size_tg0 _ rfl) rfl ?_
    exact parsed_bad HE.out (hb5.grown hgrz hb5.size (fun g hg => by injection hg with hg; omega))
  · have hR5 := (heap_setCell_ne (w := w4) (g := g) (i := 0) (.slice A n c) (show g ≠ w.heap.size by omega)).trans hR4
    have hg5 := tg_set0 (A' := A) (n' := n) (c' := c) (show w4.heap[g]? = some (.cells (tgA none 0 0 none 0 0) _ _) from hg4)
    have hb5 := hb4.setCell (p := ⟨g, 0, none⟩) (Nat.le_of_lt hlt2) (.slice A n c)
    have HoA : Own (w4.setCell ⟨g, 0, none⟩ (.slice A n c)) w3.heap.size 9 1 A n c (P.map strV) := ho.keep fun q _ hq _ => heap_setCell_ne (.slice A n c) (show g ≠ q by omega)
    have HPL := Lib.hid (fun p hp => (Nat.le_trans (path_le hyes p hp) (by omega) : p.length ≤ 1048576))
    have hpz : parseF s = contEnd P b f := by rw [HPF.out, hyes]
    have HPZ := Lib.hid hpz
    have hn2 : n ≤ 1048577 := by omega
    clear hyes hpz hR4 hg4 ho
    cases f
    · have HFIN : Hid (parseF s = finF P []) := HPZ.out
      go_upto_region 7 with fail
      obtain ⟨W5, hW5⟩ : ∃ W5, w4.setCell ⟨g, 0, none⟩ (.slice A n c) = W5 := ⟨_, rfl⟩
      rw [hW5] at hR5 hg5 hb5 HoA
      simp only [hW5]
      clear hW5 hc40 hf40
      have hSr := HoA.rd
      have hQr : Ps W5 none 0 0 [] := Rd.nil_ W5 2
      have HMA := Lib.hid (May_any hSr hQr HPL.out (fun q hq => by cases hq) (by omega))
      obtain ⟨z, hz⟩ : ∃ z, mayF P [] = z := ⟨_, rfl⟩
      rw [hz] at HMA
      cases z
      · have hpz : parseF s = ([], [], 6) := by rw [HFIN.out]; unfold finF; rw [hz]; rfl
        have HE := Lib.hid hpz
        clear hz hpz hSr hQr
        go_wp2_with (refine wpList_load_all (by rfl) _ _ rfl g rfl _ _ _ _ hg5 Tryd.underlying51 rfl size_tg0 ?_)
        refine HMA.out.mono ?_
        rintro e w6 ⟨rfl, hbl6⟩
        have hb6 := hb5.trans (hbl6.mono hb5.size)
        have hR6 := (hbl6.block _ (Array.getElem?_eq_some_iff.1 hR5).1).trans hR5
        clear hbl6 hR5 hg5
        go_wp2_with (first
          | (refine wpList_build_run rfl _ _ rfl #[] (by rfl) _ (build_tg0 _) ?_)
          | (refine wpList_store_all rfl _ _ _ rfl w.heap.size rfl _ tgZ tgZ rfl hR6 size_tg0 rfl tg_one ?_; intro wz hgz hgrz hzz; clear hzz))
        refine bodyPost_ret (results_cell_tmp rfl _ _ w.heap.size _ _ _ _ rfl hgz Tryd.underlying51 rfl size_tg0 _ rfl) rfl ?_
        exact parsed_bad HE.out (hb6.grown hgrz hb6.size (fun g hg => by injection hg with hg; omega))
      · have hpz : parseF s = (P, [], 0) := by rw [HFIN.out]; unfold finF; rw [hz]; rfl
        have HE := Lib.hid hpz
        clear hz hpz hSr hQr
        go_wp2_with (refine wpList_load_all (by rfl) _ _ rfl g rfl _ _ _ _ hg5 Tryd.underlying51 rfl size_tg0 ?_)
        refine HMA.out.mono ?_
        rintro e w6 ⟨rfl, hbl6⟩
        have hb6 := hb5.trans (hbl6.mono hb5.size)
        have hR6 := (hbl6.block _ (Array.getElem?_eq_some_iff.1 hR5).1).trans hR5
        have hg6 := (hbl6.block _ (Array.getElem?_eq_some_iff.1 hg5).1).trans hg5
        have HoA6 := HoA.below hbl6
        have HoB6 := (Own.nil_ W5 w3.heap.size 91 2).below hbl6
        clear hbl6 hR5 hg5
        go_wp2_with (first
          | (refine wpList_load_all (by rfl) _ _ rfl g rfl _ _ _ _ hg6 Tryd.underlying51 rfl size_tg0 ?_)
          | (refine wpList_store_all rfl _ _ _ rfl w.heap.size rfl _ tgZ (tgA A n c none 0 0) rfl hR6 size_tg rfl tg_one ?_; intro wz hgz hgrz hzz; clear hzz))
        refine bodyPost_ret (results_cell_tmp rfl _ _ w.heap.size _ _ _ _ rfl hgz Tryd.underlying51 rfl size_tg _ rfl) rfl ?_
        have hbz := hb6.grown hgrz hb6.size (fun g hg => by injection hg with hg; omega)
        refine ⟨hbz, A, n, c, none, 0, 0, by rw [HE.out]; rfl, ?_, ?_⟩
        · rw [HE.out]
          exact (HoA6.grown hgrz (fun q hq e => by have := (HoA6.lt q hq).1; have := Option.some.inj e; omega)).mono (by omega)
        · rw [HE.out]
          exact (HoB6.grown hgrz (fun q hq e => by have := (HoB6.lt q hq).1; have := Option.some.inj e; omega)).mono (by omega)
    · have HFIN : Hid (parseF s = contQ P [] b) := HPZ.out
      go_upto_region 7 with fail
      obtain ⟨W4, hW4⟩ : ∃ W4, w4.setCell ⟨g, 0, none⟩ (.slice A n c) = W4 := ⟨_, rfl⟩
      rw [hW4] at hR5 hg5 hb5 HoA
      simp only [hW4]
      have hlg : g < W4.heap.size := (Array.getElem?_eq_some_iff.1 hg5).1
      have hls : w3.heap.size ≤ W4.heap.size := by rw [← hW4]; simpa using hs34
      clear hW4 hc40 hf40
      go_wp2_with fail
      refine (HQU.out _ hb5).mono ?_
      rintro e w7 ⟨hbl7, hcase⟩
      have hb7 := hb5.trans (hbl7.mono hb5.size)
      have hR7 := (hbl7.block _ (Nat.lt_trans hlt2 hlg)).trans hR5
      have hg7 := (hbl7.block _ hlg).trans hg5
      have HoA7 := HoA.below hbl7
      have hs47 := hbl7.size
      clear hbl7 hR5 hg5 HoA
      have hc71 := (cell_tg hg7).2
      have hf71 := frozen_of (i := 1) hg7
      rcases hcase with ⟨hno, rfl⟩ | ⟨Q, B, m, d, hyes, rfl, hoq, hm⟩
      · have hpz : parseF s = ([], [], 4) := by rw [HFIN.out]; unfold contQ; rw [hno]
        have HE := Lib.hid hpz
        have hR8 := (heap_setCell_ne (w := w7) (g := g) (i := 1) (.slice none 0 0) (show g ≠ w.heap.size by omega)).trans hR7
        have hb8 := hb7.setCell (p := ⟨g, 1, none⟩) (Nat.le_of_lt hlt2) (.slice none 0 0)
        clear hno hpz hR7 hg7
        go_wp2_with (first
          | (refine wpList_build_run rfl _ _ rfl #[] (by rfl) _ (build_tg0 _) ?_)
          | (refine wpList_store_all rfl _ _ _ rfl w.heap.size rfl _ tgZ tgZ rfl hR8 size_tg0 rfl tg_one ?_; intro wz hgz hgrz hzz; clear hzz))
        refine bodyPost_ret (results_cell_tmp rfl _ _ w.heap.size _ _ _ _ rfl hgz Tryd.underlying51 rfl size_tg0 _ rfl) rfl ?_
        exact parsed_bad HE.out (hb8.grown hgrz hb8.size (fun g hg => by injection hg with hg; omega))
      · have hR5 := (heap_setCell_ne (w := w7) (g := g) (i := 1) (.slice B m d) (show g ≠ w.heap.size by omega)).trans hR7
        have hg5 := tg_set1 (A' := B) (n' := m) (c' := d) hg7
        have hb5 := hb7.setCell (p := ⟨g, 1, none⟩) (Nat.le_of_lt hlt2) (.slice B m d)
        have HoA : Own (w7.setCell ⟨g, 1, none⟩ (.slice B m d)) w3.heap.size 9 1 A n c (P.map strV) := HoA7.keep fun q _ hq _ => heap_setCell_ne (.slice B m d) (show g ≠ q by omega)
        have HoB : Own (w7.setCell ⟨g, 1, none⟩ (.slice B m d)) w3.heap.size 91 2 B m d (prL Q) := (hoq.mono hls).keep fun q _ hq _ => heap_setCell_ne (.slice B m d) (show g ≠ q by omega)
        have HQL := Lib.hid (fun q (hq : q ∈ Q) => (⟨Nat.le_trans (query_le hyes q hq).1 (by omega), Nat.le_trans (query_le hyes q hq).2 (by omega)⟩ : q.1.length ≤ 1048576 ∧ q.2.length ≤ 1048576))
        have hpz : parseF s = finF P Q := by rw [HFIN.out]; unfold contQ; rw [hyes]; rfl
        replace HFIN := Lib.hid hpz
        have hm2 : m ≤ 1048577 := by omega
        clear hyes hpz hR7 hg7 hoq HoA7
        go_upto_region 9 with fail
        obtain ⟨W5, hW5⟩ : ∃ W5, w7.setCell ⟨g, 1, none⟩ (.slice B m d) = W5 := ⟨_, rfl⟩
        rw [hW5] at hR5 hg5 hb5 HoA HoB
        simp only [hW5]
        clear hW5 hc71 hf71
        have hSr := HoA.rd
        have hQr : Ps W5 B m d Q := HoB.rd
        have HMA := Lib.hid (May_any hSr hQr HPL.out HQL.out (by omega))
        obtain ⟨z, hz⟩ : ∃ z, mayF P Q = z := ⟨_, rfl⟩
        rw [hz] at HMA
        cases z
        · have hpz : parseF s = ([], [], 6) := by rw [HFIN.out]; unfold finF; rw [hz]; rfl
          have HE := Lib.hid hpz
          clear hz hpz hSr hQr
          go_wp2_with (refine wpList_load_all (by rfl) _ _ rfl g rfl _ _ _ _ hg5 Tryd.underlying51 rfl size_tg0 ?_)
          refine HMA.out.mono ?_
          rintro e w6 ⟨rfl, hbl6⟩
          have hb6 := hb5.trans (hbl6.mono hb5.size)
          have hR6 := (hbl6.block _ (Array.getElem?_eq_some_iff.1 hR5).1).trans hR5
          clear hbl6 hR5 hg5
          go_wp2_with (first
            | (refine wpList_build_run rfl _ _ rfl #[] (by rfl) _ (build_tg0 _) ?_)
            | (refine wpList_store_all rfl _ _ _ rfl w.heap.size rfl _ tgZ tgZ rfl hR6 size_tg0 rfl tg_one ?_; intro wz hgz hgrz hzz; clear hzz))
          refine bodyPost_ret (results_cell_tmp rfl _ _ w.heap.size _ _ _ _ rfl hgz Tryd.underlying51 rfl size_tg0 _ rfl) rfl ?_
          exact parsed_bad HE.out (hb6.grown hgrz hb6.size (fun g hg => by injection hg with hg; omega))
        · have hpz : parseF s = (P, Q, 0) := by rw [HFIN.out]; unfold finF; rw [hz]; rfl
          have HE := Lib.hid hpz
          clear hz hpz hSr hQr
          go_wp2_with (refine wpList_load_all (by rfl) _ _ rfl g rfl _ _ _ _ hg5 Tryd.underlying51 rfl size_tg0 ?_)
          refine HMA.out.mono ?_
          rintro e w6 ⟨rfl, hbl6⟩
          have hb6 := hb5.trans (hbl6.mono hb5.size)
          have hR6 := (hbl6.block _ (Array.getElem?_eq_some_iff.1 hR5).1).trans hR5
          have hg6 := (hbl6.block _ (Array.getElem?_eq_some_iff.1 hg5).1).trans hg5
          have HoA6 := HoA.below hbl6
          have HoB6 := HoB.below hbl6
          clear hbl6 hR5 hg5
          go_wp2_with (first
            | (refine wpList_load_all (by rfl) _ _ rfl g rfl _ _ _ _ hg6 Tryd.underlying51 rfl size_tg0 ?_)
            | (refine wpList_store_all rfl _ _ _ rfl w.heap.size rfl _ tgZ (tgA A n c B m d) rfl hR6 size_tg rfl tg_one ?_; intro wz hgz hgrz hzz; clear hzz))
          refine bodyPost_ret (results_cell_tmp rfl _ _ w.heap.size _ _ _ _ rfl hgz Tryd.underlying51 rfl size_tg _ rfl) rfl ?_
          have hbz := hb6.grown hgrz hb6.size (fun g hg => by injection hg with hg; omega)
          refine ⟨hbz, A, n, c, B, m, d, by rw [HE.out]; rfl, ?_, ?_⟩
          · rw [HE.out]
            exact (HoA6.grown hgrz (fun q hq e => by have := (HoA6.lt q hq).1; have := Option.some.inj e; omega)).mono (by omega)
          · rw [HE.out]
            exact (HoB6.grown hgrz (fun q hq e => by have := (HoB6.lt q hq).1; have := Option.some.inj e; omega)).mono (by omega)

end Go.Proofs.YtaopohacelmglaaDoor.Tg

/-
  Package target and the document's answer: Get.
-/
namespace Go.Proofs.YtaopohacelmglaaDoor.Tg
open Go.RowKit

def isN (s : List UInt8) (q : Pm) : Bool := q.1 == s
def getF (Q : List Pm) (s : List UInt8) : List UInt8 × Bool := match Q.find? (isN s) with
  | some q => (q.2, true)
  | none => ([], false)
theorem find_at {α : Type} {p : α → Bool} {l : List α} {k : Nat} {x : α} (hb : ∀ (j : Nat) y, j < k → l[j]? = some y → p y = false) (hx : l[k]? = some x) (hp : p x = true) : l.find? p = some x := by
  induction l generalizing k with
  | nil => simp at hx
  | cons a l ih =>
    cases k with
    | zero =>
      obtain rfl : a = x := by simpa using hx
      simp [hp]
    | succ k =>
      have h0 := hb 0 a (by omega) rfl
      rw [List.find?_cons, h0]
      exact ih (k := k) (fun j y hj hy => hb (j + 1) y (by omega) (by simpa using hy)) (by simpa using hx)
theorem get_hit {Q : List Pm} {s : List UInt8} {k : Nat} {q : Pm} (hb : ∀ (j : Nat) g, j < k → Q[j]? = some g → isN s g = false) (hx : Q[k]? = some q) (hp : isN s q = true) : getF Q s = (q.2, true) := by
  unfold getF
  rw [find_at hb hx hp]
theorem get_miss {Q : List Pm} {s : List UInt8} (hb : ∀ (j : Nat) g, Q[j]? = some g → isN s g = false) : getF Q s = ([], false) := by
  unfold getF
  rw [List.find?_eq_none.2 (fun q hq => by
    obtain ⟨j, hj⟩ := List.mem_iff_getElem?.1 hq
    rw [hb j q hj]
    exact Bool.false_ne_true)]
def Gotten (Q : List Pm) (s : List UInt8) (w : World) (e : Ending) (w' : World) : Prop := e = .returned (.tuple #[.string ⟨(getF Q s).1.toArray⟩, .bool (getF Q s).2]) ∧ Below w.heap.size w w'

set_option maxRecDepth 20000 in
set_option maxHeartbeats 8000000 in
theorem RGet_any {w : World} {A B : Option Addr} {n c m d : Nat} {Q : List Pm} (hQ : Ps w B m d Q) (hm : m ≤ 1048577) (s : List UInt8) :
    Calls Tryd.prog 52 #[.agg (tgA A n c B m d), .string ⟨s.toArray⟩] w (Gotten Q s w) := by
  have HQL := Lib.hid hQ.len
  have HQ := Lib.hid hQ
  clear hQ
  go_enter Tryd.func52, Tryd.ntmps52
  go_upto_region 1 with (refine wpList_box rfl _ _ rfl (tgA A n c B m d) rfl ?_; intro w1 hg1 hb1 hz1)
  clear hz1
  have hc1 := (cell_tg hg1).2
  have hQ1 := HQ.out.below hb1
  clear hg1
  go_wp2_with fail
  go_loopw [6] (fun i wr => ∃ k : Nat, k ≤ m ∧ i = .int .i64 k ∧ w1 = wr ∧ Hid (∀ (j : Nat) g, j < k → Q[j]? = some g → isN s g = false)) (fun i _ => m - (intOf i).toNat)
  case atStart => exact ⟨0, by omega, rfl, rfl, (show ∀ (j : Nat) g, j < 0 → _ from fun j g h => absurd h (by omega))⟩
  case round =>
    obtain ⟨k, hk, rfl, rfl, hH⟩ := hrel
    by_cases hkm : k < m
    · have hx : Q[k]? = some (Q[k]'(by rw [HQL.out]; exact hkm)) := List.getElem?_eq_getElem _
      generalize Q[k]'(by rw [HQL.out]; exact hkm) = q at hx
      have hidx := fun W => hQ1.idx hkm W
      have hd0 := hQ1.name hx
      have hd1 := hQ1.value hx
      have hk' : (k : Int) < m := by omega
      obtain ⟨x, y⟩ := q
      unfold strV at hd0 hd1
      have hd1' : w1.cell? ⟨(at_ B (k * 2)).block, (at_ B (k * 2)).off + 1, none⟩ = some (.string ⟨y.toArray⟩) := by rw [show (⟨(at_ B (k * 2)).block, (at_ B (k * 2)).off + 1, none⟩ : Addr) = (at_ B (k * 2)).add 1 from rfl, at_add2]; exact hd1
      by_cases he : x = s
      · have he' : (x == s) = true := by simpa using he
        have HG := Lib.hid (get_hit hH.out hx he')
        clear he hx hkm
        go_wp2_with fail
        go_ret2
        unfold Gotten
        rw [HG.out]
        exact ⟨rfl, hb1⟩
      · have he' : (x == s) = false := by simpa using he
        have HN : Hid (∀ (j : Nat) g, j < k + 1 → Q[j]? = some g → isN s g = false) := fun j g hj hg => by
          by_cases hjk : j < k
          · exact hH.out j g hjk hg
          · obtain rfl : j = k := by omega
            rw [hx] at hg
            obtain rfl := Option.some.inj hg
            exact he'
        clear he hx hkm hH
        go_wp2_with fail
        go_roundw
        case rel => exact ⟨k + 1, by omega, by go_num, by trivial, HN⟩
        case measure => simp [intOf]; omega
    · obtain rfl : k = m := by omega
      have HG := Lib.hid (get_miss (s := s) fun j g hg => hH.out j g (by rw [← HQL.out]; exact (List.getElem?_eq_some_iff.1 hg).1) hg)
      clear hkm hH
      go_wp2_with fail
      go_ret2
      unfold Gotten
      rw [HG.out]
      exact ⟨rfl, hb1⟩

end Go.Proofs.YtaopohacelmglaaDoor.Tg

/-
  Package field: the library's Cut, Trim, Split in plain words; letter.
-/
namespace Go.Proofs.YtaopohacelmglaaDoor.Fl
open Go.RowKit

def blk2 : List UInt8 := [32, 9]
/-- Without blanks at both ends. -/
def trimL (s : List UInt8) : List UInt8 := Lib.trimS s blk2
/-! ### letter -/
def isL (x : UInt8) : Bool := (decide (97 ≤ x.toNat) && decide (x.toNat ≤ 122)) || (decide (65 ≤ x.toNat) && decide (x.toNat ≤ 90))
theorem or32' : ∀ c : Fin 256, c.1 ||| 32 = if c.1 / 32 % 2 = 1 then c.1 else c.1 + 32 := by decide +kernel
theorem or32 (c : Nat) (h : c < 256) : bits .or .u8 (c : Int) 32 = ((c ||| 32 : Nat) : Int) := u8_or_nat c 32 h (by omega)
theorem letter_fin : ∀ c : Fin 256, (decide (97 ≤ c.1 ||| 32) && decide (c.1 ||| 32 ≤ 122) && decide (65 ≤ c.1)) = ((decide (97 ≤ c.1) && decide (c.1 ≤ 122)) || (decide (65 ≤ c.1) && decide (c.1 ≤ 90))) := by decide +kernel
end Go.Proofs.YtaopohacelmglaaDoor.Fl

/-
  Package field: small letters; blanks, in plain words.
-/
namespace Go.Proofs.YtaopohacelmglaaDoor.Fl
open Go.RowKit

def lowB (x : UInt8) : UInt8 := if isL x then UInt8.ofNat (x.toNat ||| 32) else x
def smallL (s : List UInt8) : List UInt8 := s.map lowB
theorem low_fin : ∀ c : Fin 256, (c.1 ||| 32) < 256 ∧ (65 ≤ c.1 → c.1 ≤ 90 → c.1 ||| 32 = c.1 + 32) ∧ (97 ≤ c.1 → c.1 ≤ 122 → c.1 ||| 32 = c.1) := by decide +kernel
theorem low_yes {x : UInt8} (h : isL x = true) : Value.int .u8 (((x.toNat ||| 32 : Nat)) : Int) = b8 (lowB x) := by
  have h1 := (low_fin ⟨x.toNat, x.toNat_lt⟩).1
  dsimp only at h1
  unfold lowB
  rw [if_pos h, b8_ofNat, Nat.mod_eq_of_lt h1]
theorem low_no {x : UInt8} (h : isL x = false) : lowB x = x := by
  unfold lowB
  rw [if_neg (by rw [h]; decide)]
theorem set_mid (P R : List UInt8) (x y : UInt8) : (P ++ x :: R).set P.length y = P ++ y :: R := by
  rw [List.set_append_right _ _ (Nat.le_refl _), Nat.sub_self]
  rfl
theorem small_mid {s : List UInt8} {k : Nat} {x : UInt8} (h : s[k]? = some x) : smallL (s.take k) ++ s.drop k = smallL (s.take k) ++ x :: s.drop (k + 1) ∧ smallL (s.take (k + 1)) ++ s.drop (k + 1) = smallL (s.take k) ++ lowB x :: s.drop (k + 1) := by
  obtain ⟨hk, hx⟩ := List.getElem?_eq_some_iff.1 h
  refine ⟨by rw [List.drop_eq_getElem_cons hk, hx], ?_⟩
  unfold smallL
  rw [List.take_succ_eq_append_getElem hk, hx, List.map_append, List.append_assoc]
  rfl

/-! ### Blanks -/
def isB (x : UInt8) : Bool := blk2.contains x
theorem dw_all {p : UInt8 → Bool} : ∀ {l : List UInt8}, l.all p = true → l.dropWhile p = []
  | [], _ => rfl
  | x :: l, h => by
    rw [List.all_cons, Bool.and_eq_true] at h
    rw [List.dropWhile_cons_of_pos h.1]
    exact dw_all h.2
theorem dw_some {p : UInt8 → Bool} : ∀ {l : List UInt8}, l.all p = false → (l.dropWhile p).isEmpty = false
  | [], h => by simp at h
  | x :: l, h => by
    by_cases hx : p x = true
    · rw [List.dropWhile_cons_of_pos hx]
      rw [List.all_cons, hx, Bool.true_and] at h
      exact dw_some h
    · rw [List.dropWhile_cons_of_neg hx]
      rfl
theorem trimR_eq (l : List UInt8) : Lib.trimRightS l blk2 = (l.reverse.dropWhile isB).reverse := rfl
theorem trimR_cons (x : UInt8) (l : List UInt8) : Lib.trimRightS (x :: l) blk2 = if isB x && l.all isB then [] else x :: Lib.trimRightS l blk2 := by
  rw [trimR_eq, trimR_eq, List.reverse_cons, List.dropWhile_append]
  by_cases h : l.all isB = true
  · have hr : l.reverse.all isB = true := by rw [List.all_reverse]; exact h
    rw [dw_all hr, if_pos (by rfl)]
    by_cases hx : isB x = true
    · rw [if_pos (by rw [hx, h]; rfl), List.dropWhile_cons_of_pos hx]
      rfl
    · rw [if_neg (by simp [hx]), List.dropWhile_cons_of_neg hx]
      rfl
  · have h' : l.all isB = false := by simpa using h
    have hr : l.reverse.all isB = false := by rw [List.all_reverse]; exact h'
    rw [dw_some hr, if_neg (by decide), if_neg (by simp [h'])]
    simp
theorem all_dropWhile {l : List UInt8} (h : l.all isB = true) : l.dropWhile isB = [] := dw_all h
/-- From the left first, then from the right. -/
theorem trim_other : ∀ l : List UInt8, trimL l = Lib.trimRightS (l.dropWhile isB) blk2
  | [] => rfl
  | x :: l => by
    have ih := trim_other l
    unfold trimL Lib.trimS at ih ⊢
    rw [trimR_cons]
    by_cases hx : isB x = true
    · rw [List.dropWhile_cons_of_pos hx]
      by_cases h : l.all isB = true
      · rw [if_pos (by rw [hx, h]; rfl), all_dropWhile h]
        rfl
      · rw [if_neg (by simp [h]), ← ih]
        unfold Lib.trimLeftS
        exact List.dropWhile_cons_of_pos hx
    · rw [List.dropWhile_cons_of_neg hx, if_neg (by simp [hx]), trimR_cons, if_neg (by simp [hx])]
      unfold Lib.trimLeftS
      exact List.dropWhile_cons_of_neg hx

end Go.Proofs.YtaopohacelmglaaDoor.Fl

/-
  Names of 32 bytes (api.ID) as values, in blocks, held against each other.
-/
namespace Go.Proofs.YtaopohacelmglaaDoor
open Go.RowKit

theorem results_cell_tmp {P : Program} {fn : Func} {p q : Tmp} {ty : TypeId} (h : fn.results = #[.cell p ty, .tmp q]) (tmps : Array Value) (w : World) (g : Nat) (t : TypeId) (cs : Array Value) (fr : Nat × Nat) (d : TypeDesc)
    (hp : tmps.getD p undef = .pointer (some ⟨g, 0, none⟩)) (hg : w.heap[g]? = some (.cells cs t fr))
    (hu : P.underlying ty = some d) (hd : (match d with | .struct _ | .array _ _ => true | _ => false) = true) (hi : (P.info? ty).map (·.size) = some cs.size) (v : Value) (hv : tmps.getD q undef = v) :
    (results fn tmps).run P w = .ok (.tuple #[.agg cs, v]) w := by
  have hp' : tmps[p]?.getD undef = .pointer (some ⟨g, 0, none⟩) := by simpa using hp
  have hv' : tmps[q]?.getD undef = v := by simpa using hv
  simp [results, h, hp', hv', asAddr, run_loadVar_row w g t ty cs fr d hg hu hd hi]

/-- The cells of a name. -/
def idA (R : List UInt8) : Array Value := (R.map b8).toArray
/-- The zero name. -/
def zid : List UInt8 := List.replicate 32 0
theorem zid_len : zid.length = 32 := by simp [zid]
theorem idA_size {R : List UInt8} (h : R.length = 32) : (idA R).size = 32 := by simp [idA, h]
theorem idA_one {R : List UInt8} : ∀ v ∈ (idA R).toList, v.oneCell' = true := by
  intro v hv
  exact b8_one R v hv
theorem idA_same {R R2 : List UInt8} (h : R.length = 32) (h2 : R2.length = 32) : (idA R).size = (idA R2).size := (idA_size h).trans (idA_size h2).symm
theorem zero_id : (Tryd.prog.info? 30).map (·.zero) = some (some (.agg (idA zid))) := by kernel_rfl
theorem size_id0 : (Tryd.prog.info? 30).map (·.size) = some 32 := by kernel_rfl
theorem size_id {R : List UInt8} (h : R.length = 32) : (Tryd.prog.info? 30).map (·.size) = some (idA R).size := by rw [idA_size h]; exact size_id0
theorem build_id0 (W : World) : (Instr.build 30 #[]).run Tryd.prog W = .ok (.agg (idA zid)) W := by kernel_rfl
theorem run_arr_id (ad : Addr) (c : Nat) (W : World) : (Instr.arrayAt 30 (.slice (some ad) 32 c)).run Tryd.prog W = .ok (.pointer (some ad)) W := by kernel_rfl
theorem load_id {ad : Addr} {c : Nat} {R : List UInt8} {w : World} (h : Rd w 1 (some ad) 32 c (R.map b8)) : (loadVar 30 ad).run Tryd.prog w = .ok (.agg (idA R)) w :=
  run_loadVar_arr (P := Tryd.prog) (ty := 30) Tryd.underlying30 size_id0 h
theorem equal_id {R R2 : List UInt8} (h : R.length = 32) (h2 : R2.length = 32) (n : Nat) (W : World) : (Op.equalIn (n + 2) 30 (.agg (idA R)) (.agg (idA R2))).run Tryd.prog W = .ok (R == R2) W :=
  run_equalIn_bytes W n 30 5 32 Tryd.underlying30 Tryd.underlying5 (fun w => sizeOf_run (by kernel_rfl) w) R R2 h h2
theorem eql_id {R R2 : List UInt8} (h : R.length = 32) (h2 : R2.length = 32) (W : World) : (binOp .eql 30 (.agg (idA R)) (.agg (idA R2))).run Tryd.prog W = .ok (.bool (R == R2)) W := by
  rw [run_eql_struct, show (10000 : Nat) = 9998 + 2 from rfl, equal_id h h2]
  rfl
theorem neq_id {R R2 : List UInt8} (h : R.length = 32) (h2 : R2.length = 32) (W : World) : (binOp .neq 30 (.agg (idA R)) (.agg (idA R2))).run Tryd.prog W = .ok (.bool (!(R == R2))) W := by
  rw [run_neq_struct, show (10000 : Nat) = 9998 + 2 from rfl, equal_id h h2]
  rfl

section
variable {ops : Array Oper} {rest : List Oper} {o : Oper} {a : Act} {Q : Exit → Act → World → Prop} {w : World}
theorem wpList_eql_id (hw : Region.wanted o (yielded ops a.tmps) = true) (x y : Operand) (ho : o.op = .binOp .eql 30 x y 30) {R R2 : List UInt8} (h : R.length = 32) (h2 : R2.length = 32) (hx : a.eval x = .agg (idA R)) (hy : a.eval y = .agg (idA R2))
    (k : wpList Tryd.prog ops Q rest (a.put o.dst (.bool (R == R2))) w) : wpList Tryd.prog ops Q (o :: rest) a w := by
  refine wpList_taken hw fun K hK => ?_
  have hg := run_eqGuard_agg (P := Tryd.prog) w .eql 30 x y (idA R) (idA R2) (by kernel_rfl)
  unfold Oper.wp execOp
  simp only [ho, hx, hy, Sem.run_bind, Sem.run_pure, Result.andThen_ok, hg, eql_id h h2 w]
  exact hK _ _ k
theorem wpList_neq_id (hw : Region.wanted o (yielded ops a.tmps) = true) (x y : Operand) (ho : o.op = .binOp .neq 30 x y 30) {R R2 : List UInt8} (h : R.length = 32) (h2 : R2.length = 32) (hx : a.eval x = .agg (idA R)) (hy : a.eval y = .agg (idA R2))
    (k : wpList Tryd.prog ops Q rest (a.put o.dst (.bool (!(R == R2)))) w) : wpList Tryd.prog ops Q (o :: rest) a w := by
  refine wpList_taken hw fun K hK => ?_
  have hg := run_eqGuard_agg (P := Tryd.prog) w .neq 30 x y (idA R) (idA R2) (by kernel_rfl)
  unfold Oper.wp execOp
  simp only [ho, hx, hy, Sem.run_bind, Sem.run_pure, Result.andThen_ok, hg, neq_id h h2 w]
  exact hK _ _ k
end

end Go.Proofs.YtaopohacelmglaaDoor

/-
  Package field: Line.
-/
namespace Go.Proofs.YtaopohacelmglaaDoor.Fl
open Go.RowKit

/-- A field as a value. -/
def fdA (a b : List UInt8) : Array Value := #[.string ⟨a.toArray⟩, .string ⟨b.toArray⟩]
theorem zero_fd : (Tryd.prog.info? 41).map (·.zero) = some (some (.agg (fdA [] []))) := by kernel_rfl
theorem size_fd0 : (Tryd.prog.info? 41).map (·.size) = some 2 := by kernel_rfl
theorem size_fd (a b : List UInt8) : (Tryd.prog.info? 41).map (·.size) = some (fdA a b).size := size_fd0
theorem fd_one (a b : List UInt8) : ∀ x ∈ (fdA a b).toList, x.oneCell' = true := by
  intro x hx
  simp [fdA] at hx
  rcases hx with rfl | rfl <;> rfl
/-- May a name have it? May a value? -/
def okN (x : UInt8) : Bool := isL x || (decide (48 ≤ x.toNat) && decide (x.toNat ≤ 57)) || decide (x.toNat = 45)
def okV (x : UInt8) : Bool := decide (x.toNat = 9) || (decide (32 ≤ x.toNat) && decide (x.toNat ≤ 126))
/-- A field that a line is: its name, its value, the error's number. -/
def lineR (s : List UInt8) : List UInt8 × List UInt8 × Int :=
  if (cut1 58 s).2.2 = true ∧ (cut1 58 s).1 ≠ [] ∧ (cut1 58 s).1.all okN = true ∧ (cut1 58 s).2.1.all okV = true then (smallL (cut1 58 s).1, trimL (cut1 58 s).2.1, 0) else ([], [], 4)
theorem line_bad {s : List UInt8} (h : ¬ ((cut1 58 s).2.2 = true ∧ (cut1 58 s).1 ≠ [] ∧ (cut1 58 s).1.all okN = true ∧ (cut1 58 s).2.1.all okV = true)) : lineR s = ([], [], 4) := if_neg h
def Lined (w : World) (s : List UInt8) (e : Ending) (w' : World) : Prop := e = .returned (.tuple #[.agg (fdA (lineR s).1 (lineR s).2.1), .int .i64 (lineR s).2.2]) ∧ Below w.heap.size w w'
theorem all_at {p : UInt8 → Bool} {l : List UInt8} {k : Nat} {x : UInt8} (h : l[k]? = some x) (hx : p x = false) : l.all p ≠ true := by
  intro ha
  have := List.all_eq_true.1 ha x (List.mem_of_getElem? h)
  rw [hx] at this
  cases this
theorem all_of {p : UInt8 → Bool} {l : List UInt8} (h : ∀ (k : Nat) x, l[k]? = some x → p x = true) : l.all p = true := by
  rw [List.all_eq_true]
  intro x hx
  obtain ⟨k, hk⟩ := List.mem_iff_getElem?.1 hx
  exact h k x hk
/-- The cases of a name's byte, and of a value's. -/
theorem name_case (x : UInt8) : (isL x = true ∧ okN x = true) ∨ (isL x = false ∧ ((((x.toNat : Int) < 48 ∧ (x.toNat : Int) ≠ 45) ∧ okN x = false) ∨ ((x.toNat : Int) = 45 ∧ okN x = true) ∨ ((48 ≤ (x.toNat : Int) ∧ (x.toNat : Int) ≤ 57) ∧ okN x = true) ∨ ((48 ≤ (x.toNat : Int) ∧ 57 < (x.toNat : Int)) ∧ okN x = false))) := by
  unfold okN
  cases hl : isL x
  · refine .inr ⟨rfl, ?_⟩
    by_cases h1 : (x.toNat : Int) = 45
    · exact .inr (.inl ⟨h1, by simp; omega⟩)
    · by_cases h2 : (x.toNat : Int) < 48
      · exact .inl ⟨⟨h2, h1⟩, by simp; omega⟩
      · by_cases h3 : (x.toNat : Int) ≤ 57
        · exact .inr (.inr (.inl ⟨⟨by omega, h3⟩, by simp; omega⟩))
        · exact .inr (.inr (.inr ⟨⟨by omega, by omega⟩, by simp; omega⟩))
  · exact .inl ⟨rfl, rfl⟩
theorem value_case (x : UInt8) : ((x.toNat : Int) = 9 ∧ okV x = true) ∨ (((x.toNat : Int) ≠ 9 ∧ (x.toNat : Int) < 32) ∧ okV x = false) ∨ ((32 ≤ (x.toNat : Int) ∧ (x.toNat : Int) ≤ 126) ∧ okV x = true) ∨ ((32 ≤ (x.toNat : Int) ∧ 126 < (x.toNat : Int)) ∧ okV x = false) := by
  unfold okV
  by_cases h1 : (x.toNat : Int) = 9
  · exact .inl ⟨h1, by simp; omega⟩
  · by_cases h2 : (x.toNat : Int) < 32
    · exact .inr (.inl ⟨⟨h1, h2⟩, by simp; omega⟩)
    · by_cases h3 : (x.toNat : Int) ≤ 126
      · exact .inr (.inr (.inl ⟨⟨by omega, h3⟩, by simp; omega⟩))
      · exact .inr (.inr (.inr ⟨⟨by omega, by omega⟩, by simp; omega⟩))
theorem emp_no {l : List UInt8} (h : l ≠ []) : l.isEmpty = false := by
  cases l with
  | nil => exact absurd rfl h
  | cons x l => rfl

end Go.Proofs.YtaopohacelmglaaDoor.Fl

/-
  Package field: Words.
-/
namespace Go.Proofs.YtaopohacelmglaaDoor.Fl
open Go.RowKit

def strV (l : List UInt8) : Value := .string ⟨l.toArray⟩
theorem strV_one (l : List (List UInt8)) : ∀ u ∈ l.map strV, u.oneCell' = true := by
  intro u hu
  obtain ⟨_, _, rfl⟩ := List.mem_map.1 hu
  rfl
theorem es : ElemT Tryd.prog 39 9 (.string ByteArray.empty) 1 16 := ElemT.of Tryd.underlying39 (by kernel_rfl) rfl (by omega)
/-- The words that pieces say. -/
def wordsF : List (List UInt8) → List (List UInt8)
  | [] => []
  | p :: ps => if trimL p = [] then wordsF ps else smallL (trimL p) :: wordsF ps
theorem wordsF_app : ∀ a b : List (List UInt8), wordsF (a ++ b) = wordsF a ++ wordsF b
  | [], b => rfl
  | p :: a, b => by
    rw [List.cons_append, wordsF, wordsF, wordsF_app a b]
    split <;> rfl
theorem trimR_le (l : List UInt8) : (Lib.trimRightS l blk2).length ≤ l.length := by
  rw [trimR_eq, List.length_reverse]
  have := (List.dropWhile_suffix (l := l.reverse) isB).length_le
  simpa using this
theorem trimL_le (l : List UInt8) : (trimL l).length ≤ l.length := by
  have h1 := (List.dropWhile_suffix (l := Lib.trimRightS l blk2) isB).length_le
  have h2 := trimR_le l
  have e : trimL l = (Lib.trimRightS l blk2).dropWhile isB := rfl
  rw [e]
  omega
theorem split1_le (c : UInt8) : ∀ l, (split1 c l).length ≤ l.length + 1 ∧ ∀ p ∈ split1 c l, p.length ≤ l.length
  | [] => ⟨by simp [split1], fun p hp => by simp [split1] at hp; simp [hp]⟩
  | x :: l => by
    obtain ⟨h1, h2⟩ := split1_le c l
    rw [split1]
    split
    · refine ⟨by simpa using h1, fun p hp => ?_⟩
      rcases List.mem_cons.1 hp with rfl | hp
      · simp
      · have := h2 p hp
        simp
        omega
    · split
      · rename_i q ps hq
        rw [hq] at h1 h2
        refine ⟨by simp at h1 ⊢; omega, fun p hp => ?_⟩
        rcases List.mem_cons.1 hp with rfl | hp
        · have := h2 q (by simp)
          simpa using this
        · have := h2 p (by simp [hp])
          simp
          omega
      · refine ⟨by simp, fun p hp => ?_⟩
        obtain rfl : p = [x] := by simpa using hp
        simp
theorem wordsF_len : ∀ ps, (wordsF ps).length ≤ ps.length
  | [] => Nat.le_refl _
  | p :: ps => by
    have := wordsF_len ps
    rw [wordsF]
    split <;> (simp; omega)

end Go.Proofs.YtaopohacelmglaaDoor.Fl

/-
  How the arguments of a law are opened: integers within their kind's bounds, a slice of bytes as a list of bytes.
-/
namespace Go.Proofs.YtaopohacelmglaaDoor
open Go.ChangeShapes Go.WideShapes Go.ChangeAt Go.RowKit

theorem wfb_u64 {a : Int} (h : (Lit.int .u64 a).wf = true) : 0 ≤ a ∧ a ≤ 18446744073709551615 := by
  simp [Lit.wf, IntKind.min, IntKind.max, IntKind.signed, IntKind.bits] at h
  omega
theorem wfb_i64 {a : Int} (h : (Lit.int .i64 a).wf = true) : -9223372036854775808 ≤ a ∧ a ≤ 9223372036854775807 := by
  simp [Lit.wf, IntKind.min, IntKind.max, IntKind.signed, IntKind.bits] at h
  omega
theorem wfb_u8 {a : Int} (h : (Lit.int .u8 a).wf = true) : 0 ≤ a ∧ a ≤ 255 := by
  simp [Lit.wf, IntKind.min, IntKind.max, IntKind.signed, IntKind.bits] at h
  omega

theorem own_knob : ownKnob Tryd.prog.godebug = none := by kernel_rfl
theorem laid_out : laidOutB Tryd.prog = true := by kernel_rfl

/-- The numbers of a slice of integers that came in. -/
theorem ints_of {H : Type} {enc : TypeId × Value → H} {w : World} {t e : TypeId} {k : IntKind} {a : Option Addr} {len cap : Nat} {d : DataW H} {p : List MemPlace}
    (ht : Tryd.prog.underlying t = some (.slice e)) (he : Tryd.prog.underlying e = some (.int k)) (hc : Tryd.prog.cellsOf e = 1) (h : DataW.Trod enc Tryd.prog w 0 (fun _ => true) true t (.slice a len cap) d p) :
    ∃ zs : List Int, (a = none ∧ len = 0 ∧ cap = 0 ∧ zs = []) ∨ ∃ x, a = some x ∧ len ≤ cap ∧ cap ≤ maxLen ∧ zs.length = cap ∧ (∀ i, i < zs.length → w.cell? (x.add i) = some (.int k (zs.getD i 0))) ∧ ∀ n ∈ zs, (Lit.int k n).wf = true := by
  obtain ⟨fuel, hf⟩ := h
  rcases open_ints ht he hc hf with ⟨hcs, _⟩ | ⟨x, l, c, zs, hcs, _, hl, hm, hz, _, hcell, hwz⟩
  · simp [Value.cells] at hcs
    obtain ⟨rfl, rfl, rfl⟩ := hcs
    exact ⟨[], .inl ⟨rfl, rfl, rfl, rfl⟩⟩
  · simp [Value.cells] at hcs
    obtain ⟨rfl, rfl, rfl⟩ := hcs
    exact ⟨zs, .inr ⟨_, rfl, hl, hm, by simpa using hz, hcell, hwz⟩⟩

/-- A slice of bytes that came in. -/
theorem rd_bytes {w : World} {a : Option Addr} {len cap : Nat} {zs : List Int}
    (h : (a = none ∧ len = 0 ∧ cap = 0 ∧ zs = []) ∨ ∃ x, a = some x ∧ len ≤ cap ∧ cap ≤ maxLen ∧ zs.length = cap ∧ (∀ i, i < zs.length → w.cell? (x.add i) = some (.int .u8 (zs.getD i 0))) ∧ ∀ n ∈ zs, (Lit.int .u8 n).wf = true) :
    ∃ l : List UInt8, Rd w 1 a len cap (l.map b8) := by
  rcases h with ⟨rfl, rfl, rfl, rfl⟩ | ⟨x, rfl, hl, hm, hz, hcell, hwz⟩
  · exact ⟨[], Rd.nil_ w 1⟩
  · refine ⟨(zs.take len).map fun n => UInt8.ofNat n.toNat, ⟨by simp; omega, hl, hm, (fun h => by cases h), fun j u hu => ?_⟩⟩
    rw [List.getElem?_map, List.getElem?_map, List.getElem?_take] at hu
    split at hu
    · have hjz : j < zs.length := by omega
      rw [List.getElem?_eq_getElem hjz] at hu
      simp only [Option.map_some, Option.some.injEq] at hu
      subst hu
      have hb := wfb_u8 (hwz zs[j] (List.getElem_mem hjz))
      have hc := hcell j hjz
      rw [at_some, hc, b8_ofNat]
      simp only [List.getD, List.getElem?_eq_getElem hjz, Option.getD_some]
      congr 2
      omega
    · cases hu

end Go.Proofs.YtaopohacelmglaaDoor

/-
  How a slice of slices of bytes is opened.
-/
namespace Go.Proofs.YtaopohacelmglaaDoor
open Go.ChangeShapes Go.WideShapes Go.ChangeAt Go.RowKit Go.Deep

structure Row where
  A : Option Addr
  n : Nat
  c : Nat
  l : List UInt8
def Row.val (r : Row) : Value := .slice r.A r.n r.c
/-- A slice that reads as these rows, each of which reads as its bytes. -/
structure Rows2 (w : World) (A : Option Addr) (n c : Nat) (ll : List Row) : Prop where
  rd : Rd w 1 A n c (ll.map Row.val)
  each : ∀ r ∈ ll, Rd w 1 r.A r.n r.c (r.l.map b8)

theorem choose_list {α : Type} {Q : Nat → α → Prop} : ∀ (n : Nat), (∀ i, i < n → ∃ r, Q i r) → ∃ ll : List α, ll.length = n ∧ ∀ (i : Nat) r, ll[i]? = some r → Q i r
  | 0, _ => ⟨[], rfl, fun i r h => by simp at h⟩
  | n + 1, h => by
    obtain ⟨ll, hl, hq⟩ := choose_list n fun i hi => h i (by omega)
    obtain ⟨r, hr⟩ := h n (by omega)
    refine ⟨ll ++ [r], by simp [hl], fun i r' hi => ?_⟩
    by_cases hin : i < n
    · rw [List.getElem?_append_left (by omega)] at hi
      exact hq i r' hi
    · rw [List.getElem?_append_right (by omega)] at hi
      by_cases hi0 : i - ll.length = 0
      · have e : i = n := by omega
        subst e
        rw [hi0] at hi
        simp at hi
        subst hi
        exact hr
      · have : 0 < i - ll.length := by omega
        rw [List.getElem?_eq_none (by simp; omega)] at hi
        cases hi

theorem row_of {H : Type} {enc : TypeId × Value → H} {w : World} {e u : TypeId} {fuel : Nat} {cs : List Value} {x : DataW H × List MemPlace}
    (he : Tryd.prog.underlying e = some (.slice u)) (hu : Tryd.prog.underlying u = some (.int .u8)) (hc2 : Tryd.prog.cellsOf u = 1) (h : DataW.trod enc Tryd.prog w 0 (fun _ => true) true fuel e cs = some x) :
    ∃ r : Row, cs = [r.val] ∧ Rd w 1 r.A r.n r.c (r.l.map b8) := by
  rcases open_ints he hu hc2 h with ⟨hcs, _⟩ | ⟨a, l, c, zs, hcs, _, hl, hm, hz, _, hcell, hwz⟩
  · exact ⟨⟨none, 0, 0, []⟩, hcs, Rd.nil_ w 1⟩
  · obtain ⟨bs, hb⟩ := rd_bytes (w := w) (a := some a) (len := l) (cap := c) (zs := zs) (.inr ⟨a, rfl, hl, hm, by simpa using hz, hcell, hwz⟩)
    exact ⟨⟨some a, l, c, bs⟩, hcs, hb⟩

/-- A slice of slices of bytes that came in. -/
theorem rd_rows {H : Type} {enc : TypeId × Value → H} {w : World} {t e u : TypeId} {a : Option Addr} {len cap : Nat} {d : DataW H} {p : List MemPlace}
    (ht : Tryd.prog.underlying t = some (.slice e)) (he : Tryd.prog.underlying e = some (.slice u)) (hu : Tryd.prog.underlying u = some (.int .u8)) (hc1 : Tryd.prog.cellsOf e = 1) (hc2 : Tryd.prog.cellsOf u = 1)
    (h : DataW.Trod enc Tryd.prog w 0 (fun _ => true) true t (.slice a len cap) d p) : ∃ ll : List Row, Rows2 w a len cap ll := by
  obtain ⟨fuel, hf⟩ := h
  rcases open_slice ht hf with ⟨hcs, _⟩ | ⟨x, l, c, m, n, D, Pl, hcs, _, hl, hm, hmm, _, hel⟩
  · simp [Value.cells] at hcs
    obtain ⟨rfl, rfl, rfl⟩ := hcs
    exact ⟨[], Rd.nil_ w 1, fun r hr => by cases hr⟩
  · simp [Value.cells] at hcs
    obtain ⟨rfl, rfl, rfl⟩ := hcs
    obtain ⟨ll, hll, hq⟩ := choose_list (Q := fun i (r : Row) => w.cell? (at_ (some x) i) = some r.val ∧ Rd w 1 r.A r.n r.c (r.l.map b8)) len fun i hi => by
      obtain ⟨cs', hc, htr⟩ := hel i (by simp at hmm; omega)
      obtain ⟨r, rfl, hr⟩ := row_of he hu hc2 htr
      rw [hc1] at hc
      obtain ⟨_, _, hat⟩ := World.cells?_some hc
      have h0 := hat 0 (by omega)
      refine ⟨r, ?_, hr⟩
      rw [at_some]
      simpa [Addr.add] using h0
    refine ⟨ll, ⟨by simp [hll], hl, hm, (fun h => by cases h), fun j v hv => ?_⟩, fun r hr => ?_⟩
    · rw [List.getElem?_map] at hv
      cases hj : ll[j]? with
      | none => simp [hj] at hv
      | some r =>
        simp [hj] at hv
        subst hv
        exact (hq j r hj).1
    · obtain ⟨i, hi⟩ := List.getElem?_of_mem hr
      exact (hq i r hi).2

end Go.Proofs.YtaopohacelmglaaDoor

/-
  Slices of fields: read, opened.
-/
namespace Go.Proofs.YtaopohacelmglaaDoor.Fl
open Go.ChangeShapes Go.WideShapes Go.ChangeAt Go.RowKit Go.Deep

abbrev Fd := List UInt8 × List UInt8
def fdL : List Fd → List Value
  | [] => []
  | f :: fs => strV f.1 :: strV f.2 :: fdL fs
theorem fdL_len : ∀ fs, (fdL fs).length = fs.length * 2
  | [] => rfl
  | f :: fs => by
    have := fdL_len fs
    simp only [fdL, List.length_cons, this]
    omega
theorem fdL_at : ∀ (fs : List Fd) (k : Nat) (f : Fd), fs[k]? = some f → (fdL fs)[k * 2]? = some (strV f.1) ∧ (fdL fs)[k * 2 + 1]? = some (strV f.2)
  | [], k, f, h => by simp at h
  | g :: fs, 0, f, h => by
    obtain rfl : g = f := by simpa using h
    exact ⟨rfl, rfl⟩
  | g :: fs, k + 1, f, h => by
    have := fdL_at fs k f (by simpa using h)
    rw [show (k + 1) * 2 = k * 2 + 1 + 1 by omega]
    exact this
/-- A slice of fields. -/
def Fds (w : World) (A : Option Addr) (n c : Nat) (fs : List Fd) : Prop := Rd w 2 A n c (fdL fs)
theorem ef : ElemT Tryd.prog 22 41 (.agg (fdA [] [])) 2 32 := ElemT.of Tryd.underlying22 (by kernel_rfl) rfl (by omega)
section
variable {w w' : World} {A : Option Addr} {n c : Nat} {fs : List Fd}
theorem Fds.len (h : Fds w A n c fs) : fs.length = n := by
  have := Rd.len h
  rw [fdL_len] at this
  omega
theorem Fds.below (h : Fds w A n c fs) (hb : Below w.heap.size w w') : Fds w' A n c fs := Rd.below h hb
theorem Fds.name (h : Fds w A n c fs) {k : Nat} {f : Fd} (hx : fs[k]? = some f) : w.cell? (at_ A (k * 2)) = some (strV f.1) := Rd.cell h _ _ (fdL_at fs k f hx).1
theorem Fds.value (h : Fds w A n c fs) {k : Nat} {f : Fd} (hx : fs[k]? = some f) : w.cell? (at_ A (k * 2 + 1)) = some (strV f.2) := Rd.cell h _ _ (fdL_at fs k f hx).2
theorem at_add2 (A : Option Addr) (m j : Nat) : (at_ A m).add j = at_ A (m + j) := by
  unfold at_
  exact add_of_add _ _ _
theorem Fds.load (h : Fds w A n c fs) {k : Nat} {f : Fd} (hx : fs[k]? = some f) : (loadVar 41 (at_ A (k * 2))).run Tryd.prog w = .ok (.agg (fdA f.1 f.2)) w := by
  have hl := run_loadCells_list (P := Tryd.prog) w (at_ A (k * 2)) [strV f.1, strV f.2] (fun j v hv => by
    rw [at_add2]
    match j, hv with
    | 0, hv => obtain rfl := Option.some.inj hv; exact h.name hx
    | 1, hv => obtain rfl := Option.some.inj hv; exact h.value hx)
  have e : [strV f.1, strV f.2].length = 2 := rfl
  rw [e] at hl
  simp [loadVar, isAgg, run_underlying Tryd.underlying41, sizeOf_run size_fd0, hl, fdA, strV]
theorem Fds.idx (h : Fds w A n c fs) {k : Nat} (hk : k < n) (W : World) : (Instr.indexAt 22 (.slice A n c) (.int .i64 (k : Int))).run Tryd.prog W = .ok (.pointer (some (at_ A (k * 2)))) W :=
  run_index_rd ef (Rd.nil h) (Rd.le h) k hk W
end
theorem cells_str : Tryd.prog.cellsOf 9 = 1 := by kernel_rfl
theorem cells_fd : Tryd.prog.cellsOf 41 = 2 := by kernel_rfl
theorem rd_fields {H : Type} {enc : TypeId × Value → H} {w : World} {a : Option Addr} {len cap : Nat} {d : DataW H} {p : List MemPlace}
    (h : DataW.Trod enc Tryd.prog w 0 (fun _ => true) true 22 (.slice a len cap) d p) : ∃ fs : List Fd, Fds w a len cap fs := by
  obtain ⟨fuel, hf⟩ := h
  rcases open_slice_pairs Tryd.underlying22 Tryd.underlying41 cells_fd rfl rfl cells_str cells_str hf with ⟨hcs, _⟩ | ⟨x, l, c, m, n, V0, V1, D0, D1, P0, P1, hcs, _, hl, hm, hmm, _, hel⟩
  · simp [Value.cells] at hcs
    obtain ⟨rfl, rfl, rfl⟩ := hcs
    exact ⟨[], Rd.nil_ w 2⟩
  · simp [Value.cells] at hcs
    obtain ⟨rfl, rfl, rfl⟩ := hcs
    obtain ⟨ll, hll, hq⟩ := choose_list (Q := fun i (y : Fd) => w.cell? (at_ (some x) (i * 2)) = some (strV y.1) ∧ w.cell? (at_ (some x) (i * 2 + 1)) = some (strV y.2)) len fun i hi => by
      obtain ⟨h0, h1, t0, t1⟩ := hel i (by simp at hmm; omega)
      obtain ⟨s0, e0, _, _⟩ := DataW.trod_string Tryd.underlying9 t0
      obtain ⟨s1, e1, _, _⟩ := DataW.trod_string Tryd.underlying9 t1
      have e0' : V0 i = .string s0 := by simpa using e0
      have e1' : V1 i = .string s1 := by simpa using e1
      rw [e0'] at h0
      rw [e1'] at h1
      refine ⟨(s0.data.toList, s1.data.toList), ?_, ?_⟩
      · rw [at_some, h0]
        cases s0
        simp [strV]
      · rw [at_some, h1]
        cases s1
        simp [strV]
    refine ⟨ll, ⟨by rw [fdL_len, hll], hl, hm, (fun h => by cases h), fun j v hv => ?_⟩⟩
    have hjl : j < ll.length * 2 := by rw [← fdL_len]; exact (List.getElem?_eq_some_iff.1 hv).1
    have hi : j / 2 < ll.length := by omega
    have hx : ll[j / 2]? = some ll[j / 2] := List.getElem?_eq_getElem hi
    obtain ⟨a0, a1⟩ := fdL_at ll _ _ hx
    obtain ⟨b0, b1⟩ := hq _ _ hx
    by_cases hj : j % 2 = 0
    · have e : j = j / 2 * 2 := by omega
      rw [e] at hv ⊢
      rw [a0] at hv
      obtain rfl := Option.some.inj hv
      exact b0
    · have e : j = j / 2 * 2 + 1 := by omega
      rw [e] at hv ⊢
      rw [a1] at hv
      obtain rfl := Option.some.inj hv
      exact b1

end Go.Proofs.YtaopohacelmglaaDoor.Fl

/-
  Fields held against each other; begun.
-/
namespace Go.Proofs.YtaopohacelmglaaDoor.Fl
open Go.RowKit

/-- Are two fields the same? -/
def fdEq (a b a2 b2 : List UInt8) : Bool := (a == a2) && (b == b2)
section
variable {a b a2 b2 : List UInt8}
theorem part_fn (W : World) : (part 9 (fdA a b) 0).run Tryd.prog W = .ok (.string ⟨a.toArray⟩) W := by
  simp [part, isAgg, run_underlying Tryd.underlying9, fdA]
theorem part_fv (W : World) : (part 9 (fdA a b) 1).run Tryd.prog W = .ok (.string ⟨b.toArray⟩) W := by
  simp [part, isAgg, run_underlying Tryd.underlying9, fdA]
theorem equal_fd (W : World) : (Op.equalIn 10000 41 (.agg (fdA a b)) (.agg (fdA a2 b2))).run Tryd.prog W = .ok (fdEq a b a2 b2) W := by
  have hS : Tryd.prog.underlying 41 = some (.struct (Tryd.prog.fieldsOf 41)) := by kernel_rfl
  have hp : Tryd.prog.stoodInHeld 41 = false := by kernel_rfl
  have h1 : (Op.equalIn 9999 9 (.string ⟨a.toArray⟩) (.string ⟨a2.toArray⟩)).run Tryd.prog W = .ok (a == a2) W := by
    rw [show (9999 : Nat) = 9998 + 1 from rfl, run_equalIn_string W 9998 9 _ _ Tryd.underlying9, ByteArray.toList_eq, ByteArray.toList_eq]
  have h2 : (Op.equalIn 9999 9 (.string ⟨b.toArray⟩) (.string ⟨b2.toArray⟩)).run Tryd.prog W = .ok (b == b2) W := by
    rw [show (9999 : Nat) = 9998 + 1 from rfl, run_equalIn_string W 9998 9 _ _ Tryd.underlying9, ByteArray.toList_eq, ByteArray.toList_eq]
  rw [show (10000 : Nat) = 9999 + 1 from rfl, run_equalIn_agg W 9999 41 _ _ hS hp]
  simp only [Program.fieldsOf, Tryd.underlying41]
  unfold fdEq
  generalize (a == a2) = B1 at *
  generalize (b == b2) = B2 at *
  cases B1 <;> cases B2 <;> simp [Op.eqFields, part_fn, part_fv, h1, h2, Result.andThen]
theorem eql_fd (W : World) : (binOp .eql 41 (.agg (fdA a b)) (.agg (fdA a2 b2))).run Tryd.prog W = .ok (.bool (fdEq a b a2 b2)) W := by
  rw [run_eql_struct, equal_fd]
  rfl
end
section
variable {ops : Array Oper} {rest : List Oper} {o : Oper} {a : Act} {Q : Exit → Act → World → Prop} {w : World} {x y x2 y2 : List UInt8}
theorem wpList_eql_fd (hw : Region.wanted o (yielded ops a.tmps) = true) (u v : Operand) (ho : o.op = .binOp .eql 41 u v 41) (hu : a.eval u = .agg (fdA x y)) (hv : a.eval v = .agg (fdA x2 y2))
    (k : wpList Tryd.prog ops Q rest (a.put o.dst (.bool (fdEq x y x2 y2))) w) : wpList Tryd.prog ops Q (o :: rest) a w := by
  refine wpList_taken hw fun K hK => ?_
  have hg := run_eqGuard_agg (P := Tryd.prog) w .eql 41 u v (fdA x y) (fdA x2 y2) (by kernel_rfl)
  unfold Oper.wp execOp
  simp only [ho, hu, hv, Sem.run_bind, Sem.run_pure, Result.andThen_ok, hg, eql_fd w]
  exact hK _ _ k
end
def hostL : List UInt8 := [72, 111, 115, 116, 58, 32, 97, 32]
def closeL : List UInt8 := [67, 108, 111, 115, 101, 44, 32, 44, 98]
theorem line_host : lineR hostL = ([104, 111, 115, 116], [97], 0) := by decide +kernel
theorem words_close : wordsF (split1 44 closeL) = [[99, 108, 111, 115, 101], [98]] := by decide +kernel

end Go.Proofs.YtaopohacelmglaaDoor.Fl

/-
  Package field and the document's answer: Count, Get.
-/
namespace Go.Proofs.YtaopohacelmglaaDoor.Fl
open Go.RowKit

def isF (s : List UInt8) (f : Fd) : Bool := f.1 == s
def cntF (fs : List Fd) (s : List UInt8) : Nat := fs.countP (isF s)
def getF (fs : List Fd) (s : List UInt8) : List UInt8 × Int :=
  if cntF fs s = 0 then ([], 5) else if cntF fs s = 1 then (((fs.find? (isF s)).map (·.2)).getD [], 0) else ([], 6)
theorem cnt_succ {fs : List Fd} {k : Nat} {f : Fd} (h : fs[k]? = some f) (s : List UInt8) : cntF (fs.take (k + 1)) s = cntF (fs.take k) s + if isF s f then 1 else 0 := by
  obtain ⟨hk, hf⟩ := List.getElem?_eq_some_iff.1 h
  unfold cntF
  rw [List.take_succ_eq_append_getElem hk, List.countP_append, hf]
  simp [List.countP_cons]
theorem cnt_le (fs : List Fd) (s : List UInt8) : cntF fs s ≤ fs.length := List.countP_le_length
theorem cell_fd {w : World} {g i : Nat} {cs : Array Value} {t : TypeId} {fr : Nat × Nat} {v : Value} (h : w.heap[g]? = some (.cells cs t fr)) (hv : cs[i]? = some v) : w.cell? ⟨g, i, none⟩ = some v := by
  simp [World.cell?, h, hv]
theorem find_at {fs : List Fd} {s : List UInt8} {k : Nat} {f : Fd} (hb : ∀ (j : Nat) g, j < k → fs[j]? = some g → isF s g = false) (h : fs[k]? = some f) (hf : isF s f = true) : fs.find? (isF s) = some f := by
  induction fs generalizing k with
  | nil => simp at h
  | cons g fs ih =>
    cases k with
    | zero =>
      obtain rfl : g = f := by simpa using h
      rw [List.find?_cons, hf]
    | succ k =>
      have hg := hb 0 g (by omega) rfl
      rw [List.find?_cons, hg]
      exact ih (k := k) (fun j x hj hx => hb (j + 1) x (by omega) (by simpa using hx)) (by simpa using h)

set_option maxRecDepth 20000 in
set_option maxHeartbeats 4000000 in
theorem Count_any {w : World} {A : Option Addr} {n c : Nat} {fs : List Fd} (h : Fds w A n c fs) (hn : n ≤ 1000) (s : List UInt8) :
    Calls Tryd.prog 61 #[.slice A n c, .string ⟨s.toArray⟩] w fun e w' => e = .returned (.int .i64 (cntF fs s)) ∧ Below w.heap.size w w' := by
  have HL := Lib.hid h.len
  go_enter Tryd.func61, Tryd.ntmps61
  go_wp2_with fail
  go_loopw [5, 10] (fun v i wr => ∃ k : Nat, k ≤ n ∧ v = .int .i64 (cntF (fs.take k) s) ∧ i = .int .i64 k ∧ Below w.heap.size w wr) (fun _ i _ => n - (intOf i).toNat)
  case atStart => exact ⟨0, by omega, rfl, rfl, Below.refl _ _⟩
  case round =>
    obtain ⟨k, hk, rfl, rfl, hb⟩ := hrel
    by_cases hkn : k < n
    · have hx : fs[k]? = some (fs[k]'(by rw [HL.out]; exact hkn)) := List.getElem?_eq_getElem _
      generalize fs[k]'(by rw [HL.out]; exact hkn) = f at hx
      have hr := h.below hb
      have hidx := fun W => h.idx hkn W
      have hld := hr.load hx
      have hcs := cnt_succ hx s
      have hle : cntF (fs.take k) s ≤ 1000 := by
        have := cnt_le (fs.take k) s
        rw [List.length_take] at this
        omega
      have hk' : (k : Int) < n := by omega
      have HLD := Lib.hid hld
      obtain ⟨f1, f2⟩ := f
      dsimp only at HLD
      have HCS := Lib.hid hcs
      clear hx hkn hld hcs hr
      obtain ⟨C, hC⟩ : ∃ C, cntF (fs.take k) s = C := ⟨_, rfl⟩
      rw [hC] at HCS hle ⊢
      clear hC
      by_cases he : f1 = s
      · have he' : (f1 == s) = true := by simpa using he
        have HN : Hid (cntF (fs.take (k + 1)) s = C + 1) := by
          show _ = _
          rw [HCS.out, if_pos (show isF s (f1, f2) = true from he')]
        clear he HCS
        go_wp2_with (first
          | (refine wpList_load_run rfl _ _ rfl _ rfl _ HLD.out ?_)
          | (refine wpList_alloc_zero rfl _ rfl (fdA [] []) zero_fd ?_; intro w4 hg4 hb4 hz4; clear hz4)
          | (refine wpList_store_all rfl _ _ _ rfl wr.heap.size rfl _ _ _ rfl hg4 (size_fd _ _) rfl (fd_one _ _) ?_; intro w5 hg5 hgr5 hz5; clear hz5; have hb5 : Below wr.heap.size wr w5 := hb4.grown hgr5 hb4.size (fun g hg => (by obtain rfl := Option.some.inj hg; exact Nat.le_refl _)); have hc0 : w5.cell? ⟨wr.heap.size, 0, none⟩ = some (.string ⟨f1.toArray⟩) := cell_fd hg5 rfl))
        go_roundw
        case rel => exact ⟨k + 1, by omega, by rw [HN.out]; go_num, by go_num, hb.trans (hb5.mono hb.size)⟩
        case measure => simp [intOf]; omega
      · have he' : (f1 == s) = false := by simpa using he
        have HN : Hid (cntF (fs.take (k + 1)) s = C) := by
          show _ = _
          have hne : ¬ isF s (f1, f2) = true := by
            unfold isF
            rw [he']
            exact Bool.false_ne_true
          rw [HCS.out, if_neg hne, Nat.add_zero]
        clear he HCS
        go_wp2_with (first
          | (refine wpList_load_run rfl _ _ rfl _ rfl _ HLD.out ?_)
          | (refine wpList_alloc_zero rfl _ rfl (fdA [] []) zero_fd ?_; intro w4 hg4 hb4 hz4; clear hz4)
          | (refine wpList_store_all rfl _ _ _ rfl wr.heap.size rfl _ _ _ rfl hg4 (size_fd _ _) rfl (fd_one _ _) ?_; intro w5 hg5 hgr5 hz5; clear hz5; have hb5 : Below wr.heap.size wr w5 := hb4.grown hgr5 hb4.size (fun g hg => (by obtain rfl := Option.some.inj hg; exact Nat.le_refl _)); have hc0 : w5.cell? ⟨wr.heap.size, 0, none⟩ = some (.string ⟨f1.toArray⟩) := cell_fd hg5 rfl))
        go_roundw
        case rel => exact ⟨k + 1, by omega, by rw [HN.out], by go_num, hb.trans (hb5.mono hb.size)⟩
        case measure => simp [intOf]; omega
    · obtain rfl : k = n := by omega
      rw [List.take_of_length_le (by rw [HL.out]; exact Nat.le_refl _)]
      clear hkn
      go_wp2_with fail
      go_ret
      exact ⟨rfl, hb⟩

set_option maxRecDepth 20000 in
set_option maxHeartbeats 4000000 in
theorem RCount_any {w : World} {A : Option Addr} {n c : Nat} {fs : List Fd} (h : Fds w A n c fs) (hn : n ≤ 1000) (s : List UInt8) :
    Calls Tryd.prog 31 #[.slice A n c, .string ⟨s.toArray⟩] w fun e w' => e = .returned (.int .i64 (cntF fs s)) ∧ w = w' := by
  have HL := Lib.hid h.len
  go_enter Tryd.func31, Tryd.ntmps31
  go_wp2_with fail
  go_loopw [5, 6] (fun v i wr => ∃ k : Nat, k ≤ n ∧ v = .int .i64 (cntF (fs.take k) s) ∧ i = .int .i64 k ∧ wr = w) (fun _ i _ => n - (intOf i).toNat)
  case atStart => exact ⟨0, by omega, rfl, rfl, rfl⟩
  case round =>
    obtain ⟨k, hk, rfl, rfl, rfl⟩ := hrel
    by_cases hkn : k < n
    · have hx : fs[k]? = some (fs[k]'(by rw [HL.out]; exact hkn)) := List.getElem?_eq_getElem _
      generalize fs[k]'(by rw [HL.out]; exact hkn) = f at hx
      have hidx := fun W => h.idx hkn W
      have hcell := h.name hx
      have hcs := cnt_succ hx s
      have hle : cntF (fs.take k) s ≤ 1000 := by
        have := cnt_le (fs.take k) s
        rw [List.length_take] at this
        omega
      have hk' : (k : Int) < n := by omega
      obtain ⟨f1, f2⟩ := f
      have HCS := Lib.hid hcs
      unfold strV at hcell
      clear hx hkn hcs
      obtain ⟨C, hC⟩ : ∃ C, cntF (fs.take k) s = C := ⟨_, rfl⟩
      rw [hC] at HCS hle ⊢
      clear hC
      by_cases he : f1 = s
      · have he' : (f1 == s) = true := by simpa using he
        have HN : Hid (cntF (fs.take (k + 1)) s = C + 1) := by
          show _ = _
          rw [HCS.out, if_pos (show isF s (f1, f2) = true from he')]
        clear he HCS
        go_wp2_with fail
        go_roundw
        case rel => exact ⟨k + 1, by omega, by rw [HN.out]; go_num, by go_num, by trivial⟩
        case measure => simp [intOf]; omega
      · have he' : (f1 == s) = false := by simpa using he
        have HN : Hid (cntF (fs.take (k + 1)) s = C) := by
          show _ = _
          have hne : ¬ isF s (f1, f2) = true := by
            unfold isF
            rw [he']
            exact Bool.false_ne_true
          rw [HCS.out, if_neg hne, Nat.add_zero]
        clear he HCS
        go_wp2_with fail
        go_roundw
        case rel => exact ⟨k + 1, by omega, by rw [HN.out], by go_num, by trivial⟩
        case measure => simp [intOf]; omega
    · obtain rfl : k = n := by omega
      rw [List.take_of_length_le (by rw [HL.out]; exact Nat.le_refl _)]
      clear hkn
      go_wp2_with fail
      go_ret
      exact ⟨rfl, rfl⟩

end Go.Proofs.YtaopohacelmglaaDoor.Fl

/-
  Package field and the document's answer: Get.
-/
namespace Go.Proofs.YtaopohacelmglaaDoor.Fl
open Go.RowKit

def Got (fs : List Fd) (s : List UInt8) (e : Ending) : Prop := e = .returned (.tuple #[.string ⟨(getF fs s).1.toArray⟩, .int .i64 (getF fs s).2])
theorem get_none {fs : List Fd} {s : List UInt8} (h : cntF fs s = 0) : getF fs s = ([], 5) := if_pos h
theorem get_one {fs : List Fd} {s : List UInt8} (h : cntF fs s = 1) {k : Nat} {f : Fd} (hb : ∀ (j : Nat) g, j < k → fs[j]? = some g → isF s g = false) (hx : fs[k]? = some f) (hf : isF s f = true) : getF fs s = (f.2, 0) := by
  unfold getF
  rw [if_neg (by omega), if_pos h, find_at hb hx hf]
  rfl
theorem get_many {fs : List Fd} {s : List UInt8} (h0 : cntF fs s ≠ 0) (h1 : cntF fs s ≠ 1) : getF fs s = ([], 6) := by
  unfold getF
  rw [if_neg h0, if_neg h1]
theorem cnt_none {fs : List Fd} {s : List UInt8} (hb : ∀ (j : Nat) g, fs[j]? = some g → isF s g = false) : cntF fs s = 0 := by
  unfold cntF
  rw [List.countP_eq_zero]
  intro g hg
  obtain ⟨j, hj⟩ := List.mem_iff_getElem?.1 hg
  rw [hb j g hj]
  exact Bool.false_ne_true

set_option maxRecDepth 20000 in
set_option maxHeartbeats 4000000 in
theorem Get_any {w : World} {A : Option Addr} {n c : Nat} {fs : List Fd} (h : Fds w A n c fs) (hn : n ≤ 1000) (s : List UInt8) :
    Calls Tryd.prog 39 #[.slice A n c, .string ⟨s.toArray⟩] w fun e w' => Got fs s e ∧ Below w.heap.size w w' := by
  have HL := Lib.hid h.len
  have HC := Lib.hid (Count_any h hn s)
  obtain ⟨C, hC⟩ : ∃ C, cntF fs s = C := ⟨_, rfl⟩
  rw [hC] at HC
  have hcs : C = 0 ∨ C = 1 ∨ (C ≠ 0 ∧ C ≠ 1) := by omega
  rcases hcs with rfl | rfl | ⟨h0, h1⟩
  · have HG := Lib.hid (get_none hC)
    clear hC
    go_enter Tryd.func39, Tryd.ntmps39
    go_wp2_with fail
    refine HC.out.mono ?_
    rintro e w1 ⟨rfl, hb1⟩
    go_wp2_with fail
    go_ret2
    unfold Got
    rw [HG.out]
    exact ⟨rfl, hb1⟩
  · have HCC := Lib.hid hC
    clear hC
    go_enter Tryd.func39, Tryd.ntmps39
    go_wp2_with fail
    refine HC.out.mono ?_
    rintro e w1 ⟨rfl, hb1⟩
    go_wp2_with fail
    go_loopw [17] (fun i wr => ∃ k : Nat, k ≤ n ∧ i = .int .i64 k ∧ Below w.heap.size w wr ∧ Hid (∀ (j : Nat) g, j < k → fs[j]? = some g → isF s g = false)) (fun i _ => n - (intOf i).toNat)
    case atStart => exact ⟨0, by omega, rfl, hb1, (show ∀ (j : Nat) g, j < 0 → _ from fun j g h => absurd h (by omega))⟩
    case round =>
      obtain ⟨k, hk, rfl, hb, hH⟩ := hrel
      by_cases hkn : k < n
      · have hx : fs[k]? = some (fs[k]'(by rw [HL.out]; exact hkn)) := List.getElem?_eq_getElem _
        generalize fs[k]'(by rw [HL.out]; exact hkn) = f at hx
        have hr := h.below hb
        have hidx := fun W => h.idx hkn W
        have HLD := Lib.hid (hr.load hx)
        have hk' : (k : Int) < n := by omega
        obtain ⟨f1, f2⟩ := f
        dsimp only at HLD
        by_cases he : f1 = s
        · have he' : (f1 == s) = true := by simpa using he
          have HG := Lib.hid (get_one HCC.out hH.out hx he')
          clear he hx hkn hr
          go_wp2_with (first
            | (refine wpList_load_run rfl _ _ rfl _ rfl _ HLD.out ?_)
            | (refine wpList_alloc_zero rfl _ rfl (fdA [] []) zero_fd ?_; intro w4 hg4 hb4 hz4; clear hz4)
            | (refine wpList_store_all rfl _ _ _ rfl wr.heap.size rfl _ _ _ rfl hg4 (size_fd _ _) rfl (fd_one _ _) ?_; intro w5 hg5 hgr5 hz5; clear hz5; have hb5 : Below wr.heap.size wr w5 := hb4.grown hgr5 hb4.size (fun g hg => (by obtain rfl := Option.some.inj hg; exact Nat.le_refl _)); have hc0 : w5.cell? ⟨wr.heap.size, 0, none⟩ = some (.string ⟨f1.toArray⟩) := cell_fd hg5 rfl; have hc1 : w5.cell? ⟨wr.heap.size, 1, none⟩ = some (.string ⟨f2.toArray⟩) := cell_fd hg5 rfl))
          go_ret2
          unfold Got
          rw [HG.out]
          exact ⟨rfl, hb.trans (hb5.mono hb.size)⟩
        · have he' : (f1 == s) = false := by simpa using he
          have HN : Hid (∀ (j : Nat) g, j < k + 1 → fs[j]? = some g → isF s g = false) := fun j g hj hg => by
            by_cases hjk : j < k
            · exact hH.out j g hjk hg
            · obtain rfl : j = k := by omega
              rw [hx] at hg
              obtain rfl := Option.some.inj hg
              exact he'
          clear he hx hkn hr hH
          go_wp2_with (first
            | (refine wpList_load_run rfl _ _ rfl _ rfl _ HLD.out ?_)
            | (refine wpList_alloc_zero rfl _ rfl (fdA [] []) zero_fd ?_; intro w4 hg4 hb4 hz4; clear hz4)
            | (refine wpList_store_all rfl _ _ _ rfl wr.heap.size rfl _ _ _ rfl hg4 (size_fd _ _) rfl (fd_one _ _) ?_; intro w5 hg5 hgr5 hz5; clear hz5; have hb5 : Below wr.heap.size wr w5 := hb4.grown hgr5 hb4.size (fun g hg => (by obtain rfl := Option.some.inj hg; exact Nat.le_refl _)); have hc0 : w5.cell? ⟨wr.heap.size, 0, none⟩ = some (.string ⟨f1.toArray⟩) := cell_fd hg5 rfl))
          go_roundw
          case rel => exact ⟨k + 1, by omega, by go_num, hb.trans (hb5.mono hb.size), HN⟩
          case measure => simp [intOf]; omega
      · obtain rfl : k = n := by omega
        have : cntF fs s = 0 := cnt_none fun j g hg => hH.out j g (by rw [← HL.out]; exact (List.getElem?_eq_some_iff.1 hg).1) hg
        have := HCC.out
        omega
  · have HG := Lib.hid (get_many (fs := fs) (s := s) (by omega) (by omega))
    have h0' : ((C : Int) == 0) = false := by simp; omega
    have h1' : ((C : Int) == 1) = false := by simp; omega
    clear hC h0 h1
    go_enter Tryd.func39, Tryd.ntmps39
    go_wp2_with fail
    refine HC.out.mono ?_
    rintro e w1 ⟨rfl, hb1⟩
    go_wp2_with fail
    go_ret2
    unfold Got
    rw [HG.out]
    exact ⟨rfl, hb1⟩

set_option maxRecDepth 20000 in
set_option maxHeartbeats 4000000 in
theorem RGet_any {w : World} {A : Option Addr} {n c : Nat} {fs : List Fd} (h : Fds w A n c fs) (hn : n ≤ 1000) (s : List UInt8) :
    Calls Tryd.prog 32 #[.slice A n c, .string ⟨s.toArray⟩] w fun e w' => Got fs s e ∧ Below w.heap.size w w' := by
  have HL := Lib.hid h.len
  have HC := Lib.hid (RCount_any h hn s)
  obtain ⟨C, hC⟩ : ∃ C, cntF fs s = C := ⟨_, rfl⟩
  rw [hC] at HC
  have hcs : C = 0 ∨ C = 1 ∨ (C ≠ 0 ∧ C ≠ 1) := by omega
  rcases hcs with rfl | rfl | ⟨h0, h1⟩
  · have HG := Lib.hid (get_none hC)
    clear hC
    go_enter Tryd.func32, Tryd.ntmps32
    go_wp2_with fail
    refine HC.out.mono ?_
    rintro e w1 ⟨rfl, rfl⟩
    have hb1 := Below.refl w.heap.size w
    go_wp2_with fail
    go_ret2
    unfold Got
    rw [HG.out]
    exact ⟨rfl, hb1⟩
  · have HCC := Lib.hid hC
    clear hC
    go_enter Tryd.func32, Tryd.ntmps32
    go_wp2_with fail
    refine HC.out.mono ?_
    rintro e w1 ⟨rfl, rfl⟩
    have hb1 := Below.refl w.heap.size w
    go_wp2_with fail
    go_loopw [6] (fun i wr => ∃ k : Nat, k ≤ n ∧ i = .int .i64 k ∧ Below w.heap.size w wr ∧ Hid (∀ (j : Nat) g, j < k → fs[j]? = some g → isF s g = false)) (fun i _ => n - (intOf i).toNat)
    case atStart => exact ⟨0, by omega, rfl, hb1, (show ∀ (j : Nat) g, j < 0 → _ from fun j g h => absurd h (by omega))⟩
    case round =>
      obtain ⟨k, hk, rfl, hb, hH⟩ := hrel
      by_cases hkn : k < n
      · have hx : fs[k]? = some (fs[k]'(by rw [HL.out]; exact hkn)) := List.getElem?_eq_getElem _
        generalize fs[k]'(by rw [HL.out]; exact hkn) = f at hx
        have hr := h.below hb
        have hidx := fun W => h.idx hkn W
        have hc0 := hr.name hx
        have hc1 := hr.value hx
        have hk' : (k : Int) < n := by omega
        obtain ⟨f1, f2⟩ := f
        unfold strV at hc0 hc1
        have hc1' : wr.cell? ⟨(at_ A (k * 2)).block, (at_ A (k * 2)).off + 1, none⟩ = some (.string ⟨f2.toArray⟩) := by rw [show (⟨(at_ A (k * 2)).block, (at_ A (k * 2)).off + 1, none⟩ : Addr) = (at_ A (k * 2)).add 1 from rfl, at_add2]; exact hc1
        by_cases he : f1 = s
        · have he' : (f1 == s) = true := by simpa using he
          have HG := Lib.hid (get_one HCC.out hH.out hx he')
          clear he hx hkn hr
          go_wp2_with fail
          go_ret2
          unfold Got
          rw [HG.out]
          exact ⟨rfl, hb⟩
        · have he' : (f1 == s) = false := by simpa using he
          have HN : Hid (∀ (j : Nat) g, j < k + 1 → fs[j]? = some g → isF s g = false) := fun j g hj hg => by
            by_cases hjk : j < k
            · exact hH.out j g hjk hg
            · obtain rfl : j = k := by omega
              rw [hx] at hg
              obtain rfl := Option.some.inj hg
              exact he'
          clear he hx hkn hr hH
          go_wp2_with fail
          go_roundw
          case rel => exact ⟨k + 1, by omega, by go_num, hb, HN⟩
          case measure => simp [intOf]; omega
      · obtain rfl : k = n := by omega
        have : cntF fs s = 0 := cnt_none fun j g hg => hH.out j g (by rw [← HL.out]; exact (List.getElem?_eq_some_iff.1 hg).1) hg
        have := HCC.out
        omega
  · have HG := Lib.hid (get_many (fs := fs) (s := s) (by omega) (by omega))
    have h0' : ((C : Int) == 0) = false := by simp; omega
    have h1' : ((C : Int) == 1) = false := by simp; omega
    clear hC h0 h1
    go_enter Tryd.func32, Tryd.ntmps32
    go_wp2_with fail
    refine HC.out.mono ?_
    rintro e w1 ⟨rfl, rfl⟩
    have hb1 := Below.refl w.heap.size w
    go_wp2_with fail
    go_ret2
    unfold Got
    rw [HG.out]
    exact ⟨rfl, hb1⟩

end Go.Proofs.YtaopohacelmglaaDoor.Fl
