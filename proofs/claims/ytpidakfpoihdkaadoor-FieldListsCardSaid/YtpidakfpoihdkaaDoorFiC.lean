/-
  Package field: Line.
-/
import Derived.Test.YtpidakfpoihdkaaDoorFiB
import Derived.Test.YtpidakfpoihdkaaDoorIdv
namespace Go.Proofs.YtpidakfpoihdkaaDoor
open Go.RowKit

/-- A field as a value. -/
def fdA (a b : List UInt8) : Array Value := #[.string ⟨a.toArray⟩, .string ⟨b.toArray⟩]
theorem zero_fd : (Tryd.prog.info? 24).map (·.zero) = some (some (.agg (fdA [] []))) := by kernel_rfl
theorem size_fd0 : (Tryd.prog.info? 24).map (·.size) = some 2 := by kernel_rfl
theorem size_fd (a b : List UInt8) : (Tryd.prog.info? 24).map (·.size) = some (fdA a b).size := size_fd0
theorem fd_one (a b : List UInt8) : ∀ x ∈ (fdA a b).toList, x.oneCell' = true := by
  intro x hx
  simp [fdA] at hx
  rcases hx with rfl | rfl <;> rfl
/-- May a name have it? May a value? -/
def okN (x : UInt8) : Bool := isL x || (decide (48 ≤ x.toNat) && decide (x.toNat ≤ 57)) || decide (x.toNat = 45)
def okV (x : UInt8) : Bool := decide (x.toNat = 9) || (decide (32 ≤ x.toNat) && decide (x.toNat ≤ 126))
/-- A field that a line is: its name, its value, the error's number. -/
def lineR (s : List UInt8) : List UInt8 × List UInt8 × Int :=
  if (cut1 58 s).2.2 = true ∧ (cut1 58 s).1 ≠ [] ∧ (cut1 58 s).1.all okN = true ∧ (cut1 58 s).2.1.all okV = true then (smallL (cut1 58 s).1, trimL (cut1 58 s).2.1, 0) else ([], [], 4)
theorem line_bad {s : List UInt8} (h : ¬ ((cut1 58 s).2.2 = true ∧ (cut1 58 s).1 ≠ [] ∧ (cut1 58 s).1.all okN = true ∧ (cut1 58 s).2.1.all okV = true)) : lineR s = ([], [], 4) := if_neg h
def Lined (w : World) (s : List UInt8) (e : Ending) (w' : World) : Prop := e = .returned (.tuple #[.agg (fdA (lineR s).1 (lineR s).2.1), .int .i64 (lineR s).2.2]) ∧ Below w.heap.size w w'
theorem all_at {p : UInt8 → Bool} {l : List UInt8} {k : Nat} {x : UInt8} (h : l[k]? = some x) (hx : p x = false) : l.all p ≠ true := by
  intro ha
  have := List.all_eq_true.1 ha x (List.mem_of_getElem? h)
  rw [hx] at this
  cases this
theorem all_of {p : UInt8 → Bool} {l : List UInt8} (h : ∀ (k : Nat) x, l[k]? = some x → p x = true) : l.all p = true := by
  rw [List.all_eq_true]
  intro x hx
  obtain ⟨k, hk⟩ := List.mem_iff_getElem?.1 hx
  exact h k x hk
/-- The cases of a name's byte, and of a value's. -/
theorem name_case (x : UInt8) : (isL x = true ∧ okN x = true) ∨ (isL x = false ∧ ((((x.toNat : Int) < 48 ∧ (x.toNat : Int) ≠ 45) ∧ okN x = false) ∨ ((x.toNat : Int) = 45 ∧ okN x = true) ∨ ((48 ≤ (x.toNat : Int) ∧ (x.toNat : Int) ≤ 57) ∧ okN x = true) ∨ ((48 ≤ (x.toNat : Int) ∧ 57 < (x.toNat : Int)) ∧ okN x = false))) := by
  unfold okN
  cases hl : isL x
  · refine .inr ⟨rfl, ?_⟩
    by_cases h1 : (x.toNat : Int) = 45
    · exact .inr (.inl ⟨h1, by simp; omega⟩)
    · by_cases h2 : (x.toNat : Int) < 48
      · exact .inl ⟨⟨h2, h1⟩, by simp; omega⟩
      · by_cases h3 : (x.toNat : Int) ≤ 57
        · exact .inr (.inr (.inl ⟨⟨by omega, h3⟩, by simp; omega⟩))
        · exact .inr (.inr (.inr ⟨⟨by omega, by omega⟩, by simp; omega⟩))
  · exact .inl ⟨rfl, rfl⟩
theorem value_case (x : UInt8) : ((x.toNat : Int) = 9 ∧ okV x = true) ∨ (((x.toNat : Int) ≠ 9 ∧ (x.toNat : Int) < 32) ∧ okV x = false) ∨ ((32 ≤ (x.toNat : Int) ∧ (x.toNat : Int) ≤ 126) ∧ okV x = true) ∨ ((32 ≤ (x.toNat : Int) ∧ 126 < (x.toNat : Int)) ∧ okV x = false) := by
  unfold okV
  by_cases h1 : (x.toNat : Int) = 9
  · exact .inl ⟨h1, by simp; omega⟩
  · by_cases h2 : (x.toNat : Int) < 32
    · exact .inr (.inl ⟨⟨h1, h2⟩, by simp; omega⟩)
    · by_cases h3 : (x.toNat : Int) ≤ 126
      · exact .inr (.inr (.inl ⟨⟨by omega, h3⟩, by simp; omega⟩))
      · exact .inr (.inr (.inr ⟨⟨by omega, by omega⟩, by simp; omega⟩))
theorem emp_no {l : List UInt8} (h : l ≠ []) : l.isEmpty = false := by
  cases l with
  | nil => exact absurd rfl h
  | cons x l => rfl

set_option maxRecDepth 20000 in
set_option maxHeartbeats 8000000 in
theorem Line_any (s : List UInt8) (hs : s.length ≤ 1048576) (w : World) (hm : Mx w) : Calls Tryd.prog 9 #[.string ⟨s.toArray⟩] w (Lined w s) := by
  have hBAD : lineR s = ([], [], 4) → ∀ w', Below w.heap.size w w' → Lined w s (.returned (.tuple #[.agg (fdA [] []), .int .i64 4])) w' := fun h w' hb => by
    unfold Lined
    rw [h]
    exact ⟨rfl, hb⟩
  have HBAD := Lib.hid hBAD
  have HC := Lib.hid (fun W (hb : Below w.heap.size w W) => Cut_any 58 s (by omega) W (hm.below hb))
  have hle := cut1_le 58 s
  have hlb := line_bad (s := s)
  have hlg : (cut1 58 s).2.2 = true → (cut1 58 s).1 ≠ [] → (cut1 58 s).1.all okN = true → (cut1 58 s).2.1.all okV = true → lineR s = (smallL (cut1 58 s).1, trimL (cut1 58 s).2.1, 0) := fun a b c d => if_pos ⟨a, b, c, d⟩
  obtain ⟨X, hX⟩ : ∃ X, cut1 58 s = X := ⟨_, rfl⟩
  rw [hX] at HC hle hlb hlg
  obtain ⟨a, b, f⟩ := X
  dsimp only at HC hle hlb hlg
  have HLB := Lib.hid hlb
  have HLG := Lib.hid hlg
  have hla : a.length ≤ 1048576 := by omega
  have hlb' : b.length ≤ 1048576 := by omega
  have HSA := Lib.hid (fun W => small_any a (by omega) W)
  have HTB := Lib.hid (fun W => Trim_any b (by omega) W)
  clear hBAD hle hX hm hlb hlg
  by_cases hf : f = true
  · subst hf
    by_cases ha : a = []
    · subst ha
      have HE := Lib.hid (HBAD.out (HLB.out (fun h => h.2.1 rfl)))
      go_enter Tryd.func9, Tryd.ntmps9
      go_wp2_with (refine wpList_alloc_zero rfl _ rfl (fdA [] []) zero_fd ?_; intro w1 hg1 hb1 hz1)
      refine (HC.out _ hb1).mono ?_
      rintro e w2 ⟨rfl, hb2⟩
      have hB2 := hb1.trans (hb2.mono hb1.size)
      have hG2 := (hb2.block _ (by omega)).trans hg1
      clear hz1 hg1
      go_wp2_with (refine wpList_store_all rfl _ _ _ rfl w.heap.size rfl _ (fdA [] []) (fdA [] []) rfl hG2 (size_fd _ _) rfl (fd_one _ _) ?_; intro w7 hg7 hgr7 hz7)
      refine bodyPost_ret (results_cell_tmp rfl _ _ w.heap.size _ _ _ _ rfl hg7 Tryd.underlying24 rfl (size_fd _ _) _ rfl) rfl ?_
      exact HE.out w7 (hB2.grown hgr7 hB2.size (fun g hg => by obtain rfl := Option.some.inj hg; exact Nat.le_refl _))
    · have hae := emp_no ha
      have HNE := Lib.hid ha
      clear ha
      go_enter Tryd.func9, Tryd.ntmps9
      go_wp2_with (refine wpList_alloc_zero rfl _ rfl (fdA [] []) zero_fd ?_; intro w1 hg1 hb1 hz1)
      refine (HC.out _ hb1).mono ?_
      rintro e w2 ⟨rfl, hb2⟩
      have hB2 := hb1.trans (hb2.mono hb1.size)
      have hG2 := (hb2.block _ (by omega)).trans hg1
      have hlt2 : w.heap.size < w2.heap.size := by have := hb2.size; omega
      have HG2 := Lib.hid hG2
      clear hz1 hg1 hb1 hb2 hG2
      go_wp2_with fail
      go_loop [26] (fun i => ∃ k : Nat, k ≤ a.length ∧ i = .int .i64 k ∧ Hid (∀ (j : Nat) x, j < k → a[j]? = some x → okN x = true)) (fun i => a.length - (intOf i).toNat)
      case atStart => exact ⟨0, by omega, rfl, (show ∀ (j : Nat) x, j < 0 → _ from fun j x h => absurd h (by omega))⟩
      case round =>
        obtain ⟨k, hk, rfl, hH⟩ := hrel
        by_cases hka : k < a.length
        · have hx : a[k]? = some (a[k]'hka) := List.getElem?_eq_getElem hka
          generalize a[k]'hka = x at hx
          have hi := run_str_at (P := Tryd.prog) Tryd.underlying9 a k x hx (kl := .i64)
          have hk' : (k : Int) < a.length := by omega
          have HL := Lib.hid (fun W => letter_any x W)
          have hnext : okN x = true → ∀ j y, j < k + 1 → a[j]? = some y → okN y = true := fun h j y hj hy => by
            by_cases hjk : j < k
            · exact hH.out j y hjk hy
            · obtain rfl : j = k := by omega
              rw [hx] at hy
              rw [← Option.some.inj hy]
              exact h
          have hbad : okN x = false → lineR s = ([], [], 4) := fun h => HLB.out (fun h2 => all_at hx h h2.2.2.1)
          have HN := Lib.hid hnext
          have HB := Lib.hid hbad
          have hxb : (x.toNat : Int) ≤ 255 := by have := x.toNat_lt; omega
          clear hx hnext hbad hka hH
          rcases name_case x with ⟨hl, hok⟩ | ⟨hl, hc⟩
          · rw [hl] at HL
            have HN2 := Lib.hid (HN.out hok)
            clear hl hok
            go_wp2_with fail
            refine (HL.out _).mono ?_
            rintro e w3 ⟨rfl, rfl⟩
            go_wp2_with fail
            go_round
            case rel => exact ⟨k + 1, by omega, by go_num, HN2.out⟩
            case measure => simp [intOf]; omega
          · rw [hl] at HL
            clear hl
            rcases hc with ⟨⟨c1, c2⟩, hok⟩ | ⟨c1, hok⟩ | ⟨⟨c1, c2⟩, hok⟩ | ⟨⟨c1, c2⟩, hok⟩
            · have c2' : ((x.toNat : Int) != 45) = true := by simpa using c2
              have HE := Lib.hid (HBAD.out (HB.out hok))
              have hG := HG2.out
              clear c2 hok
              go_wp2_with fail
              refine (HL.out _).mono ?_
              rintro e w3 ⟨rfl, rfl⟩
              go_wp2_with (refine wpList_store_all rfl _ _ _ rfl w.heap.size rfl _ (fdA [] []) (fdA [] []) rfl hG (size_fd _ _) rfl (fd_one _ _) ?_; intro w7 hg7 hgr7 hz7)
              refine bodyPost_ret (results_cell_tmp rfl _ _ w.heap.size _ _ _ _ rfl hg7 Tryd.underlying24 rfl (size_fd _ _) _ rfl) rfl ?_
              exact HE.out w7 (hB2.grown hgr7 hB2.size (fun g hg => by obtain rfl := Option.some.inj hg; exact Nat.le_refl _))
            · have HN2 := Lib.hid (HN.out hok)
              have c1' : ((x.toNat : Int) != 45) = false := by simpa using c1
              have c2' : (x.toNat : Int) < 48 := by omega
              clear hok c1
              go_wp2_with fail
              refine (HL.out _).mono ?_
              rintro e w3 ⟨rfl, rfl⟩
              go_wp2_with fail
              go_round
              case rel => exact ⟨k + 1, by omega, by go_num, HN2.out⟩
              case measure => simp [intOf]; omega
            · have HN2 := Lib.hid (HN.out hok)
              clear hok
              go_wp2_with fail
              refine (HL.out _).mono ?_
              rintro e w3 ⟨rfl, rfl⟩
              go_wp2_with fail
              go_round
              case rel => exact ⟨k + 1, by omega, by go_num, HN2.out⟩
              case measure => simp [intOf]; omega
            · have c3' : ((x.toNat : Int) != 45) = true := by simp; omega
              have HE := Lib.hid (HBAD.out (HB.out hok))
              have hG := HG2.out
              clear hok
              go_wp2_with fail
              refine (HL.out _).mono ?_
              rintro e w3 ⟨rfl, rfl⟩
              go_wp2_with (refine wpList_store_all rfl _ _ _ rfl w.heap.size rfl _ (fdA [] []) (fdA [] []) rfl hG (size_fd _ _) rfl (fd_one _ _) ?_; intro w7 hg7 hgr7 hz7)
              refine bodyPost_ret (results_cell_tmp rfl _ _ w.heap.size _ _ _ _ rfl hg7 Tryd.underlying24 rfl (size_fd _ _) _ rfl) rfl ?_
              exact HE.out w7 (hB2.grown hgr7 hB2.size (fun g hg => by obtain rfl := Option.some.inj hg; exact Nat.le_refl _))
        · obtain rfl : k = a.length := by omega
          have hall : a.all okN = true := all_of (fun j x hx => hH.out j x (List.getElem?_eq_some_iff.1 hx).1 hx)
          have HALL := Lib.hid hall
          clear hka hall hH
          go_wp2_with fail
          go_loop [51] (fun i => ∃ k : Nat, k ≤ b.length ∧ i = .int .i64 k ∧ Hid (∀ (j : Nat) x, j < k → b[j]? = some x → okV x = true)) (fun i => b.length - (intOf i).toNat)
          case atStart => exact ⟨0, by omega, rfl, (show ∀ (j : Nat) x, j < 0 → _ from fun j x h => absurd h (by omega))⟩
          case round =>
            obtain ⟨k, hk, rfl, hH⟩ := hrel
            by_cases hkb : k < b.length
            · have hx : b[k]? = some (b[k]'hkb) := List.getElem?_eq_getElem hkb
              generalize b[k]'hkb = x at hx
              have hi := run_str_at (P := Tryd.prog) Tryd.underlying9 b k x hx (kl := .i64)
              have hk' : (k : Int) < b.length := by omega
              have hnext : okV x = true → ∀ j y, j < k + 1 → b[j]? = some y → okV y = true := fun h j y hj hy => by
                by_cases hjk : j < k
                · exact hH.out j y hjk hy
                · obtain rfl : j = k := by omega
                  rw [hx] at hy
                  rw [← Option.some.inj hy]
                  exact h
              have hbad : okV x = false → lineR s = ([], [], 4) := fun h => HLB.out (fun h2 => all_at hx h h2.2.2.2)
              have HN := Lib.hid hnext
              have HB := Lib.hid hbad
              have hxb : (x.toNat : Int) ≤ 255 := by have := x.toNat_lt; omega
              clear hx hnext hbad hkb hH
              rcases value_case x with ⟨c1, hok⟩ | ⟨⟨c1, c2⟩, hok⟩ | ⟨⟨c1, c2⟩, hok⟩ | ⟨⟨c1, c2⟩, hok⟩
              · have HN2 := Lib.hid (HN.out hok)
                have c1' : ((x.toNat : Int) != 9) = false := by simpa using c1
                clear hok c1
                go_wp2_with fail
                go_round
                case rel => exact ⟨k + 1, by omega, by go_num, HN2.out⟩
                case measure => simp [intOf]; omega
              · have c1' : ((x.toNat : Int) != 9) = true := by simpa using c1
                have HE := Lib.hid (HBAD.out (HB.out hok))
                have hG := HG2.out
                clear hok c1
                go_wp2_with (refine wpList_store_all rfl _ _ _ rfl w.heap.size rfl _ (fdA [] []) (fdA [] []) rfl hG (size_fd _ _) rfl (fd_one _ _) ?_; intro w7 hg7 hgr7 hz7)
                refine bodyPost_ret (results_cell_tmp rfl _ _ w.heap.size _ _ _ _ rfl hg7 Tryd.underlying24 rfl (size_fd _ _) _ rfl) rfl ?_
                exact HE.out w7 (hB2.grown hgr7 hB2.size (fun g hg => by obtain rfl := Option.some.inj hg; exact Nat.le_refl _))
              · have HN2 := Lib.hid (HN.out hok)
                have c3' : ((x.toNat : Int) != 9) = true := by simp; omega
                clear hok
                go_wp2_with fail
                go_round
                case rel => exact ⟨k + 1, by omega, by go_num, HN2.out⟩
                case measure => simp [intOf]; omega
              · have c1' : ((x.toNat : Int) != 9) = true := by simp; omega
                have HE := Lib.hid (HBAD.out (HB.out hok))
                have hG := HG2.out
                clear hok
                go_wp2_with (refine wpList_store_all rfl _ _ _ rfl w.heap.size rfl _ (fdA [] []) (fdA [] []) rfl hG (size_fd _ _) rfl (fd_one _ _) ?_; intro w7 hg7 hgr7 hz7)
                refine bodyPost_ret (results_cell_tmp rfl _ _ w.heap.size _ _ _ _ rfl hg7 Tryd.underlying24 rfl (size_fd _ _) _ rfl) rfl ?_
                exact HE.out w7 (hB2.grown hgr7 hB2.size (fun g hg => by obtain rfl := Option.some.inj hg; exact Nat.le_refl _))
            · obtain rfl : k = b.length := by omega
              have hall : b.all okV = true := all_of (fun j x hx => hH.out j x (List.getElem?_eq_some_iff.1 hx).1 hx)
              have hgood := HLG.out trivial HNE.out HALL.out hall
              have HGD := Lib.hid hgood
              clear hall hgood hH hkb
              go_wp2_with fail
              refine (HSA.out _).mono ?_
              rintro e w3 ⟨rfl, hb3⟩
              have hB3 := hB2.trans (hb3.mono hB2.size)
              go_wp2_with fail
              refine (HTB.out _).mono ?_
              rintro e w4 ⟨rfl, hb4⟩
              have hB4 := hB3.trans (hb4.mono hB3.size)
              have hG4 := (hb4.block _ (by have := hb3.size; omega)).trans ((hb3.block _ hlt2).trans HG2.out)
              clear hb3 hb4
              go_wp2_with (refine wpList_store_all rfl _ _ _ rfl w.heap.size rfl _ (fdA [] []) (fdA (smallL a) (trimL b)) rfl hG4 (size_fd _ _) rfl (fd_one _ _) ?_; intro w7 hg7 hgr7 hz7)
              refine bodyPost_ret (results_cell_tmp rfl _ _ w.heap.size _ _ _ _ rfl hg7 Tryd.underlying24 rfl (size_fd _ _) _ rfl) rfl ?_
              unfold Lined
              rw [HGD.out]
              exact ⟨rfl, hB4.grown hgr7 hB4.size (fun g hg => by obtain rfl := Option.some.inj hg; exact Nat.le_refl _)⟩
  · have hf' : f = false := by simpa using hf
    subst hf'
    have HE := Lib.hid (HBAD.out (HLB.out (fun h => by cases h.1)))
    clear hf
    go_enter Tryd.func9, Tryd.ntmps9
    go_wp2_with (refine wpList_alloc_zero rfl _ rfl (fdA [] []) zero_fd ?_; intro w1 hg1 hb1 hz1)
    refine (HC.out _ hb1).mono ?_
    rintro e w2 ⟨rfl, hb2⟩
    have hB2 := hb1.trans (hb2.mono hb1.size)
    have hG2 := (hb2.block _ (by omega)).trans hg1
    clear hz1 hg1
    go_wp2_with (refine wpList_store_all rfl _ _ _ rfl w.heap.size rfl _ (fdA [] []) (fdA [] []) rfl hG2 (size_fd _ _) rfl (fd_one _ _) ?_; intro w7 hg7 hgr7 hz7)
    refine bodyPost_ret (results_cell_tmp rfl _ _ w.heap.size _ _ _ _ rfl hg7 Tryd.underlying24 rfl (size_fd _ _) _ rfl) rfl ?_
    exact HE.out w7 (hB2.grown hgr7 hB2.size (fun g hg => by obtain rfl := Option.some.inj hg; exact Nat.le_refl _))

end Go.Proofs.YtpidakfpoihdkaaDoor
