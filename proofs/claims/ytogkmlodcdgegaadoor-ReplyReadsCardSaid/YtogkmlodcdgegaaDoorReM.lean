/-
  Package reply, in plain words: what was written is read; cut off, it is short.
-/
import Derived.Test.YtogkmlodcdgegaaDoorReJ
import Derived.Test.YtogkmlodcdgegaaDoorNaL
namespace Go.Proofs.YtogkmlodcdgegaaDoor
open Go.RowKit

theorem st_fin {v : Int} (h : isSt v) : ∃ i : Fin 11, stI i.1 = v := st_all h
/-- Reading behind a head. -/
theorem take_head {v : Int} (hv : isSt v) (S : List UInt8) : takeP (headL v ++ S) = afterL v (headL v ++ S).length S := by
  obtain ⟨i, rfl⟩ := st_fin hv
  have hp : headL (stI i.1) <+: headL (stI i.1) ++ S := List.prefix_append _ _
  have hpre : ∀ u ∈ sts.take i.1, begB (headL u) (headL (stI i.1) ++ S) = false := fun u hu => by
    obtain ⟨j, rfl, hj⟩ := take_mem i.2 hu
    exact others hp (fun e => by rw [e] at hj; omega)
  have hsc : scanL sts (headL (stI i.1) ++ S) 4 = (stI i.1, S, 0) := by
    rw [sts_split i.1 i.2, scan_skip _ _ _ 4 hpre, scanL, behind_ok hp, if_pos rfl, List.drop_left]
  unfold takeP
  rw [hsc, if_neg (by simp)]

theorem isD_dig {x : UInt8} : isD x = true ↔ 48 ≤ x.toNat ∧ x.toNat ≤ 57 := by
  simp only [isD, Bool.and_eq_true, decide_eq_true_eq]
  omega
theorem runL_all : ∀ (w : List UInt8), digL w → ∀ r : List UInt8, (∀ x q, r = x :: q → isD x = false) → runL (w ++ r) = w.length
  | [], _, r, hr => by
    rw [List.nil_append, List.length_nil]
    match r with
    | [] => rfl
    | x :: q => rw [runL, hr x q rfl]; rfl
  | x :: w, hw, r, hr => by
    have hx := isD_dig.2 (hw x (by simp))
    rw [List.cons_append, runL, if_pos hx, runL_all w (fun y hy => hw y (by simp [hy])) r hr]
    rfl
theorem itoa_dig (n : Nat) : digL (Lib.itoa (n : Int)) ∧ 0 < (Lib.itoa (n : Int)).length ∧ (∀ y r, Lib.itoa (n : Int) = y :: r → r ≠ [] → 49 ≤ y.toNat) := by
  have e : Lib.itoa (n : Int) = Lib.decDigits n := by
    unfold Lib.itoa
    rw [if_neg (by omega), Int.toNat_natCast]
  obtain ⟨h1, h2, h3, h4⟩ := dec_all n
  rw [e]
  refine ⟨h1, h3, fun y r hy hr => ?_⟩
  rcases Nat.eq_zero_or_pos n with h0 | h0
  · subst h0
    have : Lib.decDigits 0 = [48] := by decide +kernel
    rw [this] at hy
    exact absurd (List.cons.inj hy).2.symm hr
  · exact h4 h0 y r hy
theorem number_ok {w : List UInt8} {N : Int} (hw : digL w) (h0 : w ≠ []) (hN : numR ⟨w.toArray⟩ = (N, 0)) (r : List UInt8) (hr : ∀ x q, r = x :: q → isD x = false) : numberL (w ++ r) = (N, r, 0) := by
  unfold numberL
  rw [if_neg (by simp [h0]), runL_all w hw r hr, List.take_left, List.drop_left, hN, if_neg (by simp)]
theorem tail_head (c : Bool) (x : List UInt8) : ∀ y q, tailL c ++ x = y :: q → isD y = false := by
  intro y q h
  cases c
  all_goals
    simp [tailL] at h
    rw [← h.1]
    decide
theorem tails_ok (c : Bool) (x : List UInt8) : tailsL (tailL c ++ x) = (x, c, 0) := by
  cases c
  · unfold tailsL
    rw [behind_ok (List.prefix_append _ _), if_pos rfl, List.drop_left]
  · have h1 : ¬ tailL false <+: tailL true ++ x := fun h => by
      obtain ⟨q, hq⟩ := h
      simp [tailL] at hq
    have h2 : ¬ tailL true ++ x <+: tailL false := fun h => by
      have := h.length_le
      rw [List.length_append, tail_len, tail_len] at this
      simp at this
      omega
    unfold tailsL
    rw [behind_no h1 h2, behind_ok (List.prefix_append _ _), List.drop_left]
    rfl

/-- What was written is read, whatever stands behind. -/
theorem take_back {v : Int} (hv : isSt v) (l : List UInt8) (hl : l.length ≤ 1073741824) (c : Bool) (rest : List UInt8) :
    takeP ((bytesR v l c).1 ++ rest) = ⟨v, l, c, ((bytesR v l c).1.length : Nat), 0⟩ := by
  have hb : bytesR v l c = (headL v ++ Lib.itoa (l.length : Int) ++ tailL c ++ l, 0) := if_pos hv
  rw [hb]
  dsimp only
  obtain ⟨hd, h0, _⟩ := itoa_dig l.length
  have hN : numR ⟨(Lib.itoa (l.length : Int)).toArray⟩ = ((l.length : Int), 0) := numR_print (l.length : Int) (by omega) (by omega)
  have e : headL v ++ Lib.itoa (l.length : Int) ++ tailL c ++ l ++ rest = headL v ++ (Lib.itoa (l.length : Int) ++ (tailL c ++ (l ++ rest))) := by simp only [List.append_assoc]
  rw [e, take_head hv]
  unfold afterL
  rw [number_ok hd (List.length_pos_iff.1 h0) hN _ (tail_head c _)]
  dsimp only
  rw [tails_ok]
  dsimp only
  rw [if_neg (show ¬ ((0 : Int) ≠ 0) by decide), if_neg (show ¬ ((0 : Int) ≠ 0) by decide), if_neg (by rw [List.length_append]; omega)]
  congr 1
  · rw [Int.toNat_natCast, List.take_left]
  · simp only [List.length_append]
    omega

/-! ### Cut off -/
theorem scan_three (l : List UInt8) : ∀ vs : List Int, (∀ v ∈ vs, ¬ headL v <+: l) → scanL vs l 3 = (0, l, 3)
  | [], _ => rfl
  | v :: vs, h => by
    have hr := scan_three l vs (fun u hu => h u (by simp [hu]))
    have hv := h v (by simp)
    by_cases h2 : l <+: headL v
    · have hb := behind_short hv h2
      rw [scanL, if_neg (by rw [hb]; decide), if_pos (by rw [hb])]
      exact hr
    · have hb := behind_no hv h2
      rw [scanL, if_neg (by rw [hb]; decide), if_neg (by rw [hb]; decide)]
      exact hr
theorem scan_cut (l : List UInt8) : ∀ (vs : List Int) (e : Int), (∀ v ∈ vs, ¬ headL v <+: l) → (∃ v ∈ vs, l <+: headL v) → scanL vs l e = (0, l, 3)
  | [], _, _, h => by obtain ⟨v, hv, _⟩ := h; simp at hv
  | v :: vs, e, h, hex => by
    have hv := h v (by simp)
    have hr := fun u hu => h u (List.mem_cons_of_mem v hu)
    by_cases h2 : l <+: headL v
    · have hb := behind_short hv h2
      rw [scanL, if_neg (by rw [hb]; decide), if_pos (by rw [hb])]
      exact scan_three l vs hr
    · have hb := behind_no hv h2
      rw [scanL, if_neg (by rw [hb]; decide), if_neg (by rw [hb]; decide)]
      refine scan_cut l vs e hr ?_
      obtain ⟨u, hu, hp⟩ := hex
      rcases List.mem_cons.1 hu with rfl | hu
      · exact absurd hp h2
      · exact ⟨u, hu, hp⟩
theorem cut_tail0 : ∀ q : Fin 4, (tailsL ((tailL false).take q.1)).2.2 = 3 := by decide +kernel
theorem cut_tail1 : ∀ q : Fin 23, (tailsL ((tailL true).take q.1)).2.2 = 3 := by decide +kernel
theorem cut_tail (c : Bool) (q : Nat) (h : q < (tailL c).length) : (tailsL ((tailL c).take q)).2.2 = 3 := by
  cases c
  · exact cut_tail0 ⟨q, h⟩
  · exact cut_tail1 ⟨q, h⟩
theorem vL_take_le : ∀ (l : List UInt8) (a j : Nat), vL (l.take j) a ≤ vL l a
  | [], a, j => by simp
  | x :: l, a, 0 => by
    have := vL_lo (x :: l) a
    have h1 : a ≤ a * 10 ^ (x :: l).length := Nat.le_mul_of_pos_right _ (Nat.pos_of_neZero _)
    simp only [List.take_zero, vL]
    exact Nat.le_trans h1 this
  | x :: l, a, j + 1 => by
    rw [List.take_succ_cons, vL, vL]
    exact vL_take_le l _ j
/-- A beginning of a number's text is a number. -/
theorem numR_cut (n j : Nat) (hn : n < 9223372036854775808) (hj : 0 < j) : ∃ N : Int, numR ⟨((Lib.itoa (n : Int)).take j).toArray⟩ = (N, 0) := by
  obtain ⟨hd, h0, hz⟩ := itoa_dig n
  have hw : digL ((Lib.itoa (n : Int)).take j) := fun x hx => hd x (List.mem_of_mem_take hx)
  have hne : 0 < ((Lib.itoa (n : Int)).take j).length := by rw [List.length_take]; omega
  have hval : vL (Lib.itoa (n : Int)) 0 = n := by
    have e : Lib.itoa (n : Int) = Lib.decDigits n := by
      unfold Lib.itoa
      rw [if_neg (by omega), Int.toNat_natCast]
    rw [e]
    exact (dec_all n).2.1
  have hle := vL_take_le (Lib.itoa (n : Int)) 0 j
  have hS : digS ⟨((Lib.itoa (n : Int)).take j).toArray⟩ := digS_of _ hw
  have hZ : ¬ zeroS ⟨((Lib.itoa (n : Int)).take j).toArray⟩ := by
    rintro ⟨h1, h2, h3⟩
    rw [size_mk] at h3
    match hI : Lib.itoa (n : Int), h0 with
    | y :: r, _ =>
      have hr : r ≠ [] := by
        rintro rfl
        rw [hI] at h3
        have : ([y].take j).length ≤ 1 := by rw [List.length_take]; simp; omega
        omega
      have h49 := hz y r hI hr
      have h4 : ((⟨((Lib.itoa (n : Int)).take j).toArray⟩ : ByteArray)[0]) = y := by
        have : ((Lib.itoa (n : Int)).take j)[0]? = some y := by
          rw [hI, List.getElem?_take, if_pos hj]
          rfl
        simp only [ByteArray.getElem_eq_getElem_data]
        have h5 := List.getElem?_eq_some_iff.1 this
        obtain ⟨h6, h7⟩ := h5
        simpa using h7
      rw [h4] at h2
      omega
  refine ⟨_, numR_good ⟨hS, by rw [size_mk]; exact hne, hZ⟩ ?_⟩
  rw [valS_all]
  show vL ((Lib.itoa (n : Int)).take j) 0 < _
  omega

theorem take_prefix_cut {v : Int} (hv : isSt v) (m : Nat) (hm : m < (headL v).length) : takeP ((headL v).take m) = .bad 3 := by
  obtain ⟨i, rfl⟩ := st_fin hv
  have hlen : ((headL (stI i.1)).take m).length = m := by rw [List.length_take]; omega
  have hpx : (headL (stI i.1)).take m <+: headL (stI i.1) := List.take_prefix _ _
  have hno : ∀ u ∈ sts, ¬ headL u <+: (headL (stI i.1)).take m := fun u hu h => by
    obtain ⟨j, rfl⟩ := mem_sts hu
    by_cases hj : j = i
    · subst hj
      have := h.length_le
      omega
    · have := heads_apart j i hj
      rw [List.isPrefixOf_iff_prefix.2 (h.trans hpx)] at this
      cases this
  have hin : stI i.1 ∈ sts := by
    unfold sts
    exact List.mem_map.2 ⟨i.1, List.mem_range.2 i.2, rfl⟩
  have := scan_cut _ sts 4 hno ⟨_, hin, hpx⟩
  unfold takeP
  rw [this, if_pos (by simp)]
theorem take_cut {v : Int} (hv : isSt v) (l : List UInt8) (hl : l.length ≤ 1073741824) (c : Bool) (m : Nat) (hm : m < (bytesR v l c).1.length) :
    takeP ((bytesR v l c).1.take m) = .bad 3 := by
  have hb : bytesR v l c = (headL v ++ Lib.itoa (l.length : Int) ++ tailL c ++ l, 0) := if_pos hv
  rw [hb] at hm ⊢
  dsimp only at hm ⊢
  obtain ⟨hd, h0, _⟩ := itoa_dig l.length
  have hN : numR ⟨(Lib.itoa (l.length : Int)).toArray⟩ = ((l.length : Int), 0) := numR_print (l.length : Int) (by omega) (by omega)
  obtain ⟨I, hI⟩ : ∃ I, Lib.itoa (l.length : Int) = I := ⟨_, rfl⟩
  have hcut := numR_cut l.length
  rw [hI] at hd h0 hN hm hcut ⊢
  simp only [List.append_assoc, List.length_append] at hm ⊢
  by_cases h1 : m < (headL v).length
  · rw [List.take_append_of_le_length (by omega)]
    exact take_prefix_cut hv m h1
  · obtain ⟨j, rfl⟩ : ∃ j, m = (headL v).length + j := ⟨m - (headL v).length, by omega⟩
    rw [List.take_length_add_append, take_head hv]
    unfold afterL
    by_cases hj0 : j = 0
    · subst hj0
      have : numberL ((I ++ (tailL c ++ l)).take 0) = (0, [], 3) := if_pos rfl
      rw [this, if_pos (by decide)]
    · by_cases hjI : j ≤ I.length
      · rw [List.take_append_of_le_length hjI]
        obtain ⟨N, hNc⟩ := hcut j (by omega) (by omega)
        have hne : I.take j ≠ [] := List.length_pos_iff.1 (by rw [List.length_take]; omega)
        have hno := number_ok (w := I.take j) (fun x hx => hd x (List.mem_of_mem_take hx)) hne hNc [] (fun x q h => by cases h)
        rw [List.append_nil] at hno
        have ht : (tailsL []).2.2 = 3 := by decide +kernel
        rw [hno]
        dsimp only
        rw [if_neg (show ¬ ((0 : Int) ≠ 0) by decide), ht, if_pos (by decide)]
      · obtain ⟨q, rfl⟩ : ∃ q, j = I.length + q := ⟨j - I.length, by omega⟩
        rw [List.take_length_add_append]
        by_cases hqT : q < (tailL c).length
        · rw [List.take_append_of_le_length (by omega)]
          have hq0 : 0 < q := by omega
          have hd2 : ∀ y r, (tailL c).take q = y :: r → isD y = false := fun y r h => by
            refine tail_head c [] y ((tailL c).drop 1) ?_
            rw [List.append_nil]
            have e1 : tailL c = (tailL c).take q ++ (tailL c).drop q := (List.take_append_drop q _).symm
            rw [h, List.cons_append] at e1
            rw [e1]
            rfl
          rw [number_ok hd (List.length_pos_iff.1 h0) hN _ hd2]
          dsimp only
          rw [if_neg (show ¬ ((0 : Int) ≠ 0) by decide), cut_tail c q hqT, if_pos (by decide)]
        · obtain ⟨r, rfl⟩ : ∃ r, q = (tailL c).length + r := ⟨q - (tailL c).length, by omega⟩
          rw [List.take_length_add_append, number_ok hd (List.length_pos_iff.1 h0) hN _ (tail_head c _)]
          dsimp only
          rw [if_neg (show ¬ ((0 : Int) ≠ 0) by decide), tails_ok]
          dsimp only
          rw [if_neg (show ¬ ((0 : Int) ≠ 0) by decide), if_pos (by rw [List.length_take]; omega)]

/-- No two answers are the same bytes. -/
theorem bytes_inj {v u : Int} (hv : isSt v) (hu : isSt u) {l r : List UInt8} (hl : l.length ≤ 1073741824) (hr : r.length ≤ 1073741824) {c d : Bool} (h : (bytesR v l c).1 = (bytesR u r d).1) : v = u ∧ c = d ∧ l = r := by
  have h1 := take_back hv l hl c []
  have h2 := take_back hu r hr d []
  rw [h, h2] at h1
  injection h1 with a b c' _ _
  exact ⟨a.symm, c'.symm, b.symm⟩

end Go.Proofs.YtogkmlodcdgegaaDoor
