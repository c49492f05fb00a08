/-
  The document's answer to field: Words.
-/
import Derived.Test.YtpidakfpoihdkaaDoorFiD
import Derived.Test.YtpidakfpoihdkaaDoorFiE
namespace Go.Proofs.YtpidakfpoihdkaaDoor
open Go.RowKit

theorem split1_first (c : UInt8) : ∀ (P R : List UInt8), c ∉ P → split1 c (P ++ c :: R) = P :: split1 c R
  | [], R, _ => by
    rw [List.nil_append, split1, if_pos rfl]
  | x :: P, R, h => by
    have hx : x ≠ c := fun e => h (by simp [e])
    rw [List.cons_append, split1, if_neg hx, split1_first c P R (fun e => h (by simp [e]))]
theorem split1_last (c : UInt8) : ∀ P : List UInt8, c ∉ P → split1 c P = [P]
  | [], _ => rfl
  | x :: P, h => by
    have hx : x ≠ c := fun e => h (by simp [e])
    rw [split1, if_neg hx, split1_last c P (fun e => h (by simp [e]))]
theorem emp_no' {l : List UInt8} (h : l ≠ []) : l.isEmpty = false := by
  cases l with
  | nil => exact absurd rfl h
  | cons x l => rfl
/-- Where the reading stands: Wd are the words behind it; the piece under way begins at st. -/
def WInv (s : List UInt8) (k st : Nat) (Wd : List (List UInt8)) : Prop :=
  (k ≤ s.length ∧ st ≤ k ∧ (44 : UInt8) ∉ (s.drop st).take (k - st) ∧ wordsF (split1 44 s) = Wd ++ wordsF (split1 44 (s.drop st))) ∨ (k = s.length + 1 ∧ wordsF (split1 44 s) = Wd)
variable {s : List UInt8} {k st : Nat} {Wd : List (List UInt8)}
theorem WInv.start : WInv s 0 0 [] := .inl ⟨by omega, Nat.le_refl _, by simp, by simp⟩
theorem WInv.beg (h : WInv s k st Wd) (hk : k ≤ s.length) : st ≤ k := by
  rcases h with h | h
  · exact h.2.1
  · omega
theorem WInv.done (h : WInv s k st Wd) (hk : s.length < k) : wordsF (split1 44 s) = Wd := by
  rcases h with h | h
  · omega
  · exact h.2
theorem WInv.skip (h : WInv s k st Wd) {x : UInt8} (hx : s[k]? = some x) (h44 : x ≠ 44) : WInv s (k + 1) st Wd := by
  obtain ⟨hkl, hxe⟩ := List.getElem?_eq_some_iff.1 hx
  rcases h with ⟨_, h2, h3, h4⟩ | h
  · refine .inl ⟨hkl, by omega, ?_, h4⟩
    have e : (s.drop st).take (k + 1 - st) = (s.drop st).take (k - st) ++ [x] := by
      rw [show k + 1 - st = k - st + 1 by omega, List.take_add_one, List.getElem?_drop, show st + (k - st) = k by omega, hx]
      rfl
    rw [e]
    intro hm
    rcases List.mem_append.1 hm with hm | hm
    · exact h3 hm
    · exact h44 (by simpa using hm : (44 : UInt8) = x).symm
  · omega
theorem WInv.piece (h : WInv s k st Wd) (hk : k = s.length ∨ s[k]? = some 44) :
    (trimL ((s.drop st).take (k - st)) = [] → WInv s (k + 1) (k + 1) Wd) ∧ (trimL ((s.drop st).take (k - st)) ≠ [] → WInv s (k + 1) (k + 1) (Wd ++ [smallL (trimL ((s.drop st).take (k - st)))])) := by
  have hkl : k ≤ s.length := by
    rcases hk with rfl | hk
    · exact Nat.le_refl _
    · exact Nat.le_of_lt (List.getElem?_eq_some_iff.1 hk).1
  obtain ⟨h1, h2, h3, h4⟩ : k ≤ s.length ∧ st ≤ k ∧ (44 : UInt8) ∉ (s.drop st).take (k - st) ∧ wordsF (split1 44 s) = Wd ++ wordsF (split1 44 (s.drop st)) := by
    rcases h with h | h
    · exact h
    · omega
  rcases hk with rfl | hk
  · have e : (s.drop st).take (s.length - st) = s.drop st := List.take_of_length_le (by rw [List.length_drop]; omega)
    rw [e] at h3 ⊢
    rw [split1_last 44 _ h3] at h4
    constructor
    · intro h5
      refine .inr ⟨rfl, ?_⟩
      rw [h4, wordsF, if_pos h5, wordsF, List.append_nil]
    · intro h5
      refine .inr ⟨rfl, ?_⟩
      rw [h4, wordsF, if_neg h5, wordsF]
  · obtain ⟨hlt, hxe⟩ := List.getElem?_eq_some_iff.1 hk
    have e : s.drop st = (s.drop st).take (k - st) ++ 44 :: s.drop (k + 1) := by
      have e1 : (s.drop st).drop (k - st) = 44 :: s.drop (k + 1) := by
        rw [List.drop_drop, show st + (k - st) = k by omega, List.drop_eq_getElem_cons hlt, hxe]
      rw [← e1, List.take_append_drop]
    have h5 : split1 44 (s.drop st) = (s.drop st).take (k - st) :: split1 44 (s.drop (k + 1)) := by
      have := split1_first 44 _ (s.drop (k + 1)) h3
      rwa [← e] at this
    rw [h5, wordsF] at h4
    have hn : (44 : UInt8) ∉ (s.drop (k + 1)).take (k + 1 - (k + 1)) := by simp
    constructor
    · intro h6
      rw [if_pos h6] at h4
      exact .inl ⟨by omega, Nat.le_refl _, hn, h4⟩
    · intro h6
      rw [if_neg h6] at h4
      exact .inl ⟨by omega, Nat.le_refl _, hn, by rw [h4]; simp⟩

set_option maxRecDepth 20000 in
set_option maxHeartbeats 8000000 in
theorem RWords_any (s : List UInt8) (hs : s.length ≤ 1048576) (w : World) : Calls Tryd.prog 12 #[.string ⟨s.toArray⟩] w fun e w' => ∃ A n c, e = .returned (.slice A n c) ∧ Own w' w.heap.size 9 1 A n c ((wordsF (split1 44 s)).map strV) ∧ Below w.heap.size w w' := by
  have hs1 : (s.length : Int) ≤ 1048576 := by omega
  go_enter Tryd.func12, Tryd.ntmps12
  go_wp2_with fail
  go_loopw [3, 4, 5] (fun l b i wr => ∃ (k st : Nat) (A : Option Addr) (n c : Nat) (Wd : List (List UInt8)), k ≤ s.length + 1 ∧ l = .slice A n c ∧ b = .int .i64 st ∧ i = .int .i64 k ∧ Own wr w.heap.size 9 1 A n c (Wd.map strV) ∧ n ≤ k ∧ Below w.heap.size w wr ∧ Hid (WInv s k st Wd)) (fun _ _ i _ => s.length + 1 - (intOf i).toNat)
  case atStart => exact ⟨0, 0, none, 0, 0, [], by omega, rfl, rfl, rfl, Own.nil_ _ _ _ _, by omega, Below.refl _ _, WInv.start⟩
  case round =>
    obtain ⟨k, st, A, n, c, Wd, hk, rfl, rfl, rfl, ho, hn, hb, hW⟩ := hrel
    by_cases hkN : k ≤ s.length
    · have hst := hW.out.beg hkN
      have hkI : (k : Int) ≤ s.length := by omega
      have hcs : (∃ x, s[k]? = some x ∧ x ≠ 44) ∨ (s[k]? = some 44) ∨ k = s.length := by
        by_cases hl : k < s.length
        · by_cases h44 : s[k] = 44
          · exact .inr (.inl (by rw [List.getElem?_eq_getElem hl, h44]))
          · exact .inl ⟨_, List.getElem?_eq_getElem hl, h44⟩
        · exact .inr (.inr (by omega))
      rcases hcs with ⟨x, hx, h44⟩ | hcs
      · have hN := Lib.hid (hW.out.skip hx h44)
        have hi := run_str_at (P := Tryd.prog) Tryd.underlying9 s k x hx (kl := .i64)
        have hkl : (k : Int) < s.length := (by have := (List.getElem?_eq_some_iff.1 hx).1; omega)
        have hk1 : k + 1 ≤ s.length + 1 := by omega
        have h44' : ((x.toNat : Int) != 44) = true := by
          simp
          intro e
          exact h44 (UInt8.toNat_inj.1 (by simpa using (by omega : x.toNat = 44)))
        clear hx h44 hst hkN hk hW
        go_wp2_with fail
        go_roundw
        case rel => exact ⟨k + 1, st, A, n, c, Wd, hk1, rfl, rfl, by go_num, ho, by omega, hb, hN⟩
        case measure => simp [intOf]; omega
      · obtain ⟨hP0, hP1⟩ := hW.out.piece hcs.symm
        have hsl := run_str_lh (P := Tryd.prog) Tryd.underlying9 s st k hst hkN (kl := .i64) (kh := .i64) rfl rfl
        have hpl : ((s.drop st).take (k - st)).length ≤ 1048576 := by rw [List.length_take, List.length_drop]; omega
        obtain ⟨p, hp⟩ : ∃ p, (s.drop st).take (k - st) = p := ⟨_, rfl⟩
        rw [hp] at hP0 hP1 hsl hpl
        have htl := trimL_le p
        have HT := Lib.hid (fun W => RTrim_any p (by omega) W)
        obtain ⟨q, hq⟩ : ∃ q, trimL p = q := ⟨_, rfl⟩
        rw [hq] at HT htl hP0 hP1
        have HS := Lib.hid (fun W => RSmall_any q (by omega) W)
        have HP0 := Lib.hid hP0
        have HP1 := Lib.hid hP1
        have hqi : (smallL q).isEmpty = q.isEmpty := by cases q <;> rfl
        have hk1 : k + 1 ≤ s.length + 1 := by omega
        have hg : (∃ x : UInt8, ((k : Int) < s.length ∧ (∀ W, (Instr.index 9 (.string ⟨s.toArray⟩) (.int .i64 (k : Int))).run Tryd.prog W = .ok (.int .u8 (x.toNat : Int)) W)) ∧ ((x.toNat : Int) != 44) = false) ∨ (s.length : Int) ≤ k := by
          rcases hcs with hx | rfl
          · exact .inl ⟨44, ⟨(by have := (List.getElem?_eq_some_iff.1 hx).1; omega), fun W => run_str_at Tryd.underlying9 s k 44 hx W⟩, rfl⟩
          · exact .inr (by omega)
        clear hcs hP0 hP1 hp hq hW hst hpl htl hk hkN
        rcases hg with ⟨x, ⟨hkl, hi⟩, hx44⟩ | hkl
        all_goals
          go_wp2_with fail
          refine (HT.out _).mono ?_
          rintro e w2 ⟨rfl, rfl⟩
          go_wp2_with fail
          refine (HS.out _).mono ?_
          rintro e w3 ⟨rfl, hb3⟩
          have hb13 := hb.trans (hb3.mono hb.size)
          have ho3 := ho.below hb3
          by_cases hqe : q = []
          · subst hqe
            have HN := Lib.hid (HP0.out rfl)
            have he0 : (smallL []).isEmpty = true := rfl
            clear hb3 ho HP1
            go_wp2_with fail
            go_roundw
            case rel => exact ⟨k + 1, k + 1, A, n, c, Wd, hk1, rfl, by go_num, by go_num, ho3, by omega, hb13, HN⟩
            case measure => simp [intOf]; omega
          · have hne : (smallL q).isEmpty = false := by rw [hqi]; exact emp_no' hqe
            have HN := Lib.hid (HP1.out hqe)
            clear hb3 ho HP0 hqi hqe
            go_wp2_with (at_builtin; refine wpList_app rfl _ _ rfl es (ho3.alloc _) rfl (Rd.lit _ [_] _ 1 rfl (by unfold maxLen; omega)) rfl (by simp [Value.oneCell']) (by omega) (by unfold maxLen; omega) (by have := hb13.size; simp; omega) ?_; intro A4 c4 w4 ho4 hg4 hq4; have hb4 := below_app hb13 (Nat.le_refl _) ho3 hg4)
            have ho5 : Own w4 w.heap.size 9 1 A4 (n + 1) c4 ((Wd ++ [smallL q]).map strV) := by
              rw [List.map_append]
              exact ho4
            go_roundw
            case rel => exact ⟨k + 1, k + 1, A4, n + 1, c4, _, hk1, rfl, by go_num, by go_num, ho5, by omega, hb4, HN⟩
            case measure => simp [intOf]; omega
    · have hd := hW.out.done (by omega)
      have hkI : (s.length : Int) < k := by omega
      rw [← hd] at ho
      clear hd hkN hW
      go_wp2_with fail
      go_ret
      exact ⟨A, n, c, rfl, ho, hb⟩

end Go.Proofs.YtpidakfpoihdkaaDoor
