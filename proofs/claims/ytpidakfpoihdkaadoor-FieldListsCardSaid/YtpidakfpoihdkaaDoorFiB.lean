/-
  Package field: small letters; blanks, in plain words.
-/
import Derived.Test.YtpidakfpoihdkaaDoorFiA
import Derived.Test.YtpidakfpoihdkaaDoorStrR
namespace Go.Proofs.YtpidakfpoihdkaaDoor
open Go.RowKit

def lowB (x : UInt8) : UInt8 := if isL x then UInt8.ofNat (x.toNat ||| 32) else x
def smallL (s : List UInt8) : List UInt8 := s.map lowB
theorem low_fin : ∀ c : Fin 256, (c.1 ||| 32) < 256 ∧ (65 ≤ c.1 → c.1 ≤ 90 → c.1 ||| 32 = c.1 + 32) ∧ (97 ≤ c.1 → c.1 ≤ 122 → c.1 ||| 32 = c.1) := by decide +kernel
theorem low_yes {x : UInt8} (h : isL x = true) : Value.int .u8 (((x.toNat ||| 32 : Nat)) : Int) = b8 (lowB x) := by
  have h1 := (low_fin ⟨x.toNat, x.toNat_lt⟩).1
  dsimp only at h1
  unfold lowB
  rw [if_pos h, b8_ofNat, Nat.mod_eq_of_lt h1]
theorem low_no {x : UInt8} (h : isL x = false) : lowB x = x := by
  unfold lowB
  rw [if_neg (by rw [h]; decide)]
theorem set_mid (P R : List UInt8) (x y : UInt8) : (P ++ x :: R).set P.length y = P ++ y :: R := by
  rw [List.set_append_right _ _ (Nat.le_refl _), Nat.sub_self]
  rfl
theorem small_mid {s : List UInt8} {k : Nat} {x : UInt8} (h : s[k]? = some x) : smallL (s.take k) ++ s.drop k = smallL (s.take k) ++ x :: s.drop (k + 1) ∧ smallL (s.take (k + 1)) ++ s.drop (k + 1) = smallL (s.take k) ++ lowB x :: s.drop (k + 1) := by
  obtain ⟨hk, hx⟩ := List.getElem?_eq_some_iff.1 h
  refine ⟨by rw [List.drop_eq_getElem_cons hk, hx], ?_⟩
  unfold smallL
  rw [List.take_succ_eq_append_getElem hk, hx, List.map_append, List.append_assoc]
  rfl

set_option maxRecDepth 20000 in
set_option maxHeartbeats 4000000 in
theorem small_any (s : List UInt8) (hs : s.length ≤ 1073741824) (w : World) :
    Calls Tryd.prog 20 #[.string ⟨s.toArray⟩] w fun e w' => e = .returned (.string ⟨(smallL s).toArray⟩) ∧ Below w.heap.size w w' := by
  obtain ⟨n, hn⟩ : ∃ n, s.length = n := ⟨_, rfl⟩
  have HN := Lib.hid hn
  have hn1 : n ≤ 1073741824 := by omega
  clear hn hs
  go_enter Tryd.func20, Tryd.ntmps20
  go_wp2_with (refine wpList_s2b rfl _ rfl Tryd.underlying9 Tryd.underlying32 Tryd.underlying5 ⟨s.toArray⟩ rfl (by rw [size_mk, HN.out]; exact hn1) ?_; intro c1 w1 ho1 hb1; rw [size_mk, HN.out] at ho1 ⊢; generalize (some (⟨w.heap.size, 0, none⟩ : Addr)) = A1 at ho1 ⊢)
  go_loopw [10] (fun i wr => ∃ k : Nat, k ≤ n ∧ i = .int .i64 k ∧ Own wr w.heap.size 5 1 A1 n c1 ((smallL (s.take k) ++ s.drop k).map b8) ∧ Below w.heap.size w wr) (fun i _ => n - (intOf i).toNat)
  case atStart => exact ⟨0, by omega, rfl, by simpa [smallL] using ho1, hb1⟩
  case round =>
    obtain ⟨k, hk, rfl, ho, hb⟩ := hrel
    clear ho1 hb1
    by_cases hkn : k < n
    · have hx : s[k]? = some (s[k]'(by rw [HN.out]; exact hkn)) := List.getElem?_eq_getElem _
      generalize s[k]'(by rw [HN.out]; exact hkn) = x at hx
      obtain ⟨hm1, hm2⟩ := small_mid hx
      have hPl : (smallL (s.take k)).length = k := by unfold smallL; rw [List.length_map, List.length_take, HN.out]; omega
      have hcell := ho.rd.cell k (b8 x) (by
        rw [hm1, List.map_append, List.getElem?_append_right (by rw [List.length_map, hPl]; exact Nat.le_refl _), List.length_map, hPl, Nat.sub_self]
        rfl)
      have hidx := run_index_rd (P := Tryd.prog) (A := A1) (n := n) (c := c1) eb ho.rd.nil ho.rd.le k hkn
      rw [Nat.mul_one] at hidx
      have hle := ho.rd.le
      have hfr := ho.free (k := k) (by omega)
      have hst := ho.store (k := k) (by omega) (b8 (lowB x))
      have hbs := below_store hb ho (k := k) (by omega) (b8 (lowB x))
      have hst2 : Own (wr.setCell (at_ A1 k) (b8 (lowB x))) w.heap.size 5 1 A1 n c1 ((smallL (s.take (k + 1)) ++ s.drop (k + 1)).map b8) := by
        rw [hm2, ← set_mid _ _ x, hPl, List.map_set, ← hm1]
        exact hst
      have hkeep : lowB x = x → Own wr w.heap.size 5 1 A1 n c1 ((smallL (s.take (k + 1)) ++ s.drop (k + 1)).map b8) := fun h => by
        rw [hm2, h, ← hm1]
        exact ho
      have HL := Lib.hid (fun W => letter_any x W)
      have hor := or32 x.toNat x.toNat_lt
      have hk' : (k : Int) < n := by omega
      have HST := Lib.hid hst2
      have HBS := Lib.hid hbs
      have HKE := Lib.hid hkeep
      unfold b8 at hcell
      clear hx hm1 hm2 hPl hst hst2 hbs hkeep hkn
      by_cases hl : isL x = true
      · have HY := Lib.hid (low_yes hl)
        rw [hl] at HL
        clear hl
        go_wp2_with fail
        refine (HL.out _).mono ?_
        rintro e w2 ⟨rfl, rfl⟩
        go_wp2_with fail
        rw [HY.out]
        go_roundw
        case rel => exact ⟨k + 1, by omega, by go_num, HST.out, HBS.out⟩
        case measure => simp [intOf]; omega
      · have hl' : isL x = false := by simpa using hl
        have HO := Lib.hid (HKE.out (low_no hl'))
        rw [hl'] at HL
        clear hl hl'
        go_wp2_with fail
        refine (HL.out _).mono ?_
        rintro e w2 ⟨rfl, rfl⟩
        go_wp2_with fail
        go_roundw
        case rel => exact ⟨k + 1, by omega, by go_num, HO.out, hb⟩
        case measure => simp [intOf]; omega
    · obtain rfl : k = n := by omega
      have e : smallL (s.take k) ++ s.drop k = smallL s := by rw [List.take_of_length_le (by rw [HN.out]; exact Nat.le_refl _), List.drop_eq_nil_of_le (by rw [HN.out]; exact Nat.le_refl _), List.append_nil]
      rw [e] at ho
      have hs := str_rd ho.rd
      clear e hkn
      go_wp2_with fail
      go_ret
      exact ⟨rfl, hb⟩

/-! ### Blanks -/
def isB (x : UInt8) : Bool := blk2.contains x
theorem dw_all {p : UInt8 → Bool} : ∀ {l : List UInt8}, l.all p = true → l.dropWhile p = []
  | [], _ => rfl
  | x :: l, h => by
    rw [List.all_cons, Bool.and_eq_true] at h
    rw [List.dropWhile_cons_of_pos h.1]
    exact dw_all h.2
theorem dw_some {p : UInt8 → Bool} : ∀ {l : List UInt8}, l.all p = false → (l.dropWhile p).isEmpty = false
  | [], h => by simp at h
  | x :: l, h => by
    by_cases hx : p x = true
    · rw [List.dropWhile_cons_of_pos hx]
      rw [List.all_cons, hx, Bool.true_and] at h
      exact dw_some h
    · rw [List.dropWhile_cons_of_neg hx]
      rfl
theorem trimR_eq (l : List UInt8) : Lib.trimRightS l blk2 = (l.reverse.dropWhile isB).reverse := rfl
theorem trimR_cons (x : UInt8) (l : List UInt8) : Lib.trimRightS (x :: l) blk2 = if isB x && l.all isB then [] else x :: Lib.trimRightS l blk2 := by
  rw [trimR_eq, trimR_eq, List.reverse_cons, List.dropWhile_append]
  by_cases h : l.all isB = true
  · have hr : l.reverse.all isB = true := by rw [List.all_reverse]; exact h
    rw [dw_all hr, if_pos (by rfl)]
    by_cases hx : isB x = true
    · rw [if_pos (by rw [hx, h]; rfl), List.dropWhile_cons_of_pos hx]
      rfl
    · rw [if_neg (by simp [hx]), List.dropWhile_cons_of_neg hx]
      rfl
  · have h' : l.all isB = false := by simpa using h
    have hr : l.reverse.all isB = false := by rw [List.all_reverse]; exact h'
    rw [dw_some hr, if_neg (by decide), if_neg (by simp [h'])]
    simp
theorem all_dropWhile {l : List UInt8} (h : l.all isB = true) : l.dropWhile isB = [] := dw_all h
/-- From the left first, then from the right. -/
theorem trim_other : ∀ l : List UInt8, trimL l = Lib.trimRightS (l.dropWhile isB) blk2
  | [] => rfl
  | x :: l => by
    have ih := trim_other l
    unfold trimL Lib.trimS at ih ⊢
    rw [trimR_cons]
    by_cases hx : isB x = true
    · rw [List.dropWhile_cons_of_pos hx]
      by_cases h : l.all isB = true
      · rw [if_pos (by rw [hx, h]; rfl), all_dropWhile h]
        rfl
      · rw [if_neg (by simp [h]), ← ih]
        unfold Lib.trimLeftS
        exact List.dropWhile_cons_of_pos hx
    · rw [List.dropWhile_cons_of_neg hx, if_neg (by simp [hx]), trimR_cons, if_neg (by simp [hx])]
      unfold Lib.trimLeftS
      exact List.dropWhile_cons_of_neg hx

end Go.Proofs.YtpidakfpoihdkaaDoor
