/-
  Package folder: what is read was written so (plain words); what the document's Take comes to.
-/
import Derived.Test.YtgdbdhfomlkpdaaFoM
namespace Go.Proofs.Ytgdbdhfomlkpdaa
open Go.RowKit

theorem takeC_canon : ∀ (l : List UInt8) (i p V K : Nat), takeC l i p = (V, K, 0) → ∃ v, V = p + v * 128 ^ i ∧ K = i + (countB v).length ∧ (∃ q, l = countB v ++ q) ∧ (0 < i → v ≠ 0)
  | [], i, p, V, K, h => by simp [takeC] at h
  | x :: r, i, p, V, K, h => by
    rw [takeC] at h
    by_cases hb : (i = 9 ∧ 1 < x.toNat) ∨ (x.toNat = 0 ∧ 0 < i)
    · rw [if_pos hb] at h
      simp at h
    · rw [if_neg hb] at h
      have hx := x.toNat_lt
      by_cases h1 : x.toNat < 128
      · rw [if_pos h1] at h
        simp only [Prod.mk.injEq, and_true] at h
        refine ⟨x.toNat, h.1.symm, ?_, ⟨r, ?_⟩, fun hi e => hb (.inr ⟨e, hi⟩)⟩
        · rw [countB_small _ h1]
          exact h.2.symm
        · rw [countB_small _ h1, UInt8.ofNat_toNat]
          rfl
      · rw [if_neg h1] at h
        obtain ⟨v, hV, hK, ⟨q, hq⟩, hv⟩ := takeC_canon r (i + 1) _ V K h
        have hv0 := hv (by omega)
        have e1 : (x.toNat - 128 + 128 * v) % 128 = x.toNat - 128 := by omega
        have e2 : (x.toNat - 128 + 128 * v) / 128 = v := by omega
        have ec : countB (x.toNat - 128 + 128 * v) = x :: countB v := by
          rw [countB_big _ (by omega), e1, e2]
          have : x.toNat - 128 + 128 = x.toNat := by omega
          rw [this, UInt8.ofNat_toNat]
        refine ⟨x.toNat - 128 + 128 * v, ?_, ?_, ⟨q, ?_⟩, fun _ => by omega⟩
        · rw [hV, Nat.pow_succ, Nat.add_mul, ← Nat.add_assoc]
          congr 1
          rw [Nat.mul_comm (128 ^ i) 128, Nat.mul_comm 128 v, ← Nat.mul_assoc]
        · rw [ec, hK]
          simp only [List.length_cons]
          omega
        · rw [ec, hq]
          rfl
theorem tcR_canon {l : List UInt8} {V K : Nat} (h : tcR l = (V, K, 0)) : K = (countB V).length ∧ l = countB V ++ l.drop K := by
  obtain ⟨v, hV, hK, ⟨q, hq⟩, _⟩ := takeC_canon l 0 0 V K h
  rw [Nat.pow_zero, Nat.mul_one, Nat.zero_add] at hV
  subst hV
  rw [Nat.zero_add] at hK
  subst hK
  refine ⟨rfl, ?_⟩
  rw [hq, List.drop_left]
theorem ttR_canon {r L : List UInt8} {m : Nat} (h : ttR r = (L, m, 0)) : r = countB L.length ++ (L ++ r.drop m) ∧ m = (countB L.length).length + L.length := by
  obtain ⟨V, K, E, hT⟩ : ∃ V K E, tcR r = (V, K, E) := ⟨_, _, _, rfl⟩
  unfold ttR at h
  rw [hT] at h
  dsimp only at h
  by_cases hE : E ≠ 0
  · rw [if_pos hE] at h
    simp only [Prod.mk.injEq] at h
    exact absurd h.2.2 hE
  · rw [if_neg hE] at h
    have hE0 : E = 0 := by simpa using hE
    subst hE0
    by_cases h2 : 65536 < V
    · rw [if_pos h2] at h
      simp at h
    · rw [if_neg h2] at h
      by_cases h3 : r.length - K < V
      · rw [if_pos h3] at h
        simp at h
      · rw [if_neg h3] at h
        simp only [Prod.mk.injEq, and_true] at h
        obtain ⟨hL, hm⟩ := h
        obtain ⟨hK, hr⟩ := tcR_canon hT
        have hLl : L.length = V := by
          rw [← hL, List.length_take, List.length_drop]
          omega
        rw [hLl]
        refine ⟨?_, by rw [← hK]; exact hm.symm⟩
        have e : L ++ r.drop m = r.drop K := by
          rw [← hL, ← hm, ← List.drop_drop]
          exact List.take_append_drop V (r.drop K)
        rw [e]
        exact hr
theorem itP_canon {l q : List UInt8} {x : It} (h : itP l = some (x, q)) : l = itBytes x ++ q := by
  rcases l with _ | ⟨k, r⟩
  · simp [itP] at h
  · obtain ⟨L, m, E, hT⟩ : ∃ L m E, ttR r = (L, m, E) := ⟨_, _, _, rfl⟩
    obtain ⟨V, M, E2, hC⟩ : ∃ V M E2, tcR (r.drop (m + 32)) = (V, M, E2) := ⟨_, _, _, rfl⟩
    simp only [itP, hT] at h
    rw [hC] at h
    dsimp only at h
    by_cases hE : E ≠ 0
    · rw [if_pos hE] at h
      cases h
    · rw [if_neg hE] at h
      have hE0 : E = 0 := by simpa using hE
      subst hE0
      by_cases h1 : r.length - m < 32
      · rw [if_pos h1] at h
        cases h
      · rw [if_neg h1] at h
        by_cases h2 : E2 ≠ 0 ∨ 9223372036854775807 < V
        · rw [if_pos h2] at h
          cases h
        · rw [if_neg h2] at h
          have hE2 : E2 = 0 := by
            by_cases e : E2 = 0
            · exact e
            · exact absurd (.inl e) h2
          subst hE2
          simp only [Option.some.injEq, Prod.mk.injEq] at h
          obtain ⟨rfl, hq⟩ := h
          obtain ⟨hr, hm⟩ := ttR_canon hT
          obtain ⟨_, hd⟩ := tcR_canon hC
          have hk : UInt8.ofNat ((k.toNat : Int)).toNat = k := by rw [Int.toNat_natCast, UInt8.ofNat_toNat]
          have hs : (⟨L.toArray⟩ : ByteArray).size = L.length := by simp [ByteArray.size]
          have hv : ((V : Int)).toNat = V := Int.toNat_natCast V
          simp only [itBytes, hk, hs, hv, List.cons_append, List.append_assoc]
          congr 1
          rw [← hq, ← hd]
          have e : (r.drop m).take 32 ++ r.drop (m + 32) = r.drop m := by
            rw [← List.drop_drop]
            exact List.take_append_drop 32 (r.drop m)
          rw [e]
          exact hr
theorem goI_canon : ∀ (N : Nat) (acc its : List It) (r q : List UInt8), goI N acc r = some (its, q) → ∃ m, its = acc ++ m ∧ m.length = N ∧ r = itsBytes m ++ q
  | 0, acc, its, r, q, h => by
    simp only [goI, Option.some.injEq, Prod.mk.injEq] at h
    exact ⟨[], by simp [h.1], rfl, by simp [itsBytes, h.2]⟩
  | N + 1, acc, its, r, q, h => by
    rcases hp : itP r with _ | ⟨x, q'⟩
    · rw [goI_none hp] at h
      cases h
    · rw [goI_some hp] at h
      obtain ⟨m, h1, h2, h3⟩ := goI_canon N _ its q' q h
      refine ⟨x :: m, by simp [h1], by simp [h2], ?_⟩
      rw [itP_canon hp, h3]
      simp [itsBytes]

/-- The head that the document wants. -/
def headD (l : List UInt8) : Prop := 3 ≤ l.length ∧ l.take 2 = [68, 49] ∧ (l.getD 2 0).toNat ≤ 64
theorem head_tc {l : List UInt8} (h : headD l) : tcR (l.drop 2) = ((l.getD 2 0).toNat, 1, 0) ∧ (l.drop 2).drop 1 = l.drop 3 := by
  obtain ⟨h1, h2, h3⟩ := h
  match l, h1 with
  | a :: b :: x :: r, _ =>
    refine ⟨?_, rfl⟩
    have hx : x.toNat ≤ 64 := h3
    show takeC (x :: r) 0 0 = _
    rw [takeC, if_neg (by omega), if_pos (by omega)]
    simp
theorem tc_head {l : List UInt8} {N k : Nat} (h1 : l.take 2 = [68, 49]) (h : tcR (l.drop 2) = (N, k, 0)) (h64 : N ≤ 64) : headD l := by
  obtain ⟨hk, hd⟩ := tcR_canon h
  rw [countB_small N (by omega)] at hk hd
  match l, h1, hd with
  | [a, b], _, hd => simp at hd
  | a :: b :: x :: r, h1, hd =>
    refine ⟨by simp, h1, ?_⟩
    simp only [List.drop_succ_cons, List.drop_zero, List.cons_append, List.cons.injEq] at hd
    show x.toNat ≤ 64
    rw [hd.1, UInt8.toNat_ofNat']
    omega
theorem rt_no {l : List UInt8} (h : ¬ headD l) : takeF l = ([], 4) := by
  by_cases h1 : 4000 < l.length ∨ l.take 2 ≠ [68, 49]
  · exact takeF_no1 h1
  · obtain ⟨N, k, E, hT⟩ : ∃ N k E, tcR (l.drop 2) = (N, k, E) := ⟨_, _, _, rfl⟩
    by_cases hE : E ≠ 0 ∨ 64 < N
    · exact takeF_no2 hT hE
    · exfalso
      have hE0 : E = 0 := by
        by_cases e : E = 0
        · exact e
        · exact absurd (.inl e) hE
      subst hE0
      have h2 : l.take 2 = [68, 49] := by
        by_cases e : l.take 2 = [68, 49]
        · exact e
        · exact absurd (.inr e) h1
      exact h (tc_head h2 hT (by omega))
theorem rt_fail {l : List UInt8} (h : headD l) (hg : goI (l.getD 2 0).toNat [] (l.drop 3) = none) : takeF l = ([], 4) := by
  obtain ⟨hT, hd⟩ := head_tc h
  by_cases h1 : 4000 < l.length ∨ l.take 2 ≠ [68, 49]
  · exact takeF_no1 h1
  · rw [takeF_go h1 hT h.2.2, hd, hg]
theorem rt_end {l q : List UInt8} {its : List It} (h : headD l) (hg : goI (l.getD 2 0).toNat [] (l.drop 3) = some (its, q)) :
    takeF l = if (foR its).2 = 0 ∧ (foR its).1 = l then (its, 0) else ([], 4) := by
  obtain ⟨hT, hd⟩ := head_tc h
  obtain ⟨m, hm1, hm2, hm3⟩ := goI_canon _ _ _ _ _ hg
  rw [List.nil_append] at hm1
  subst hm1
  have hfo : foB its = [68, 49] ++ [l.getD 2 0] ++ itsBytes its := by
    unfold foB
    rw [hm2, countB_small _ (by have := h.2.2; omega), UInt8.ofNat_toNat]
  have hl : l = [68, 49] ++ [l.getD 2 0] ++ (itsBytes its ++ q) := by
    rw [← hm3]
    obtain ⟨h1, h2, _⟩ := h
    match l, h1, h2 with
    | a :: b :: x :: r, _, h2 =>
      simp only [List.take_succ_cons, List.take_zero, List.cons.injEq, and_true] at h2
      obtain ⟨rfl, rfl⟩ := h2
      rfl
  have hlq : l = foB its ++ q := by
    rw [hfo]
    rw [List.append_assoc]
    exact hl
  by_cases h4 : 4000 < l.length
  · rw [takeF_no1 (.inl h4), if_neg]
    rintro ⟨a1, a2⟩
    by_cases hm : mayL its = false
    · rw [foR_no hm] at a1
      simp at a1
    · have hm' : mayL its = true := by simpa using hm
      by_cases h5 : 4000 < (foB its).length
      · rw [foR_long hm' h5] at a1
        simp at a1
      · rw [foR_yes hm' h5] at a2
        dsimp only at a2
        rw [a2] at h5
        exact h5 h4
  · have h1 : ¬ (4000 < l.length ∨ l.take 2 ≠ [68, 49]) := by
      rintro (a | a)
      · exact h4 a
      · exact a h.2.1
    rw [takeF_go h1 hT h.2.2, hd, hg]
    dsimp only
    by_cases hm : mayL its = false
    · rw [if_pos (.inr hm), if_neg]
      rintro ⟨a1, _⟩
      rw [foR_no hm] at a1
      simp at a1
    · have hm' : mayL its = true := by simpa using hm
      by_cases hq : q = []
      · subst hq
        rw [List.append_nil] at hlq
        rw [if_neg (by simp [hm']), if_pos]
        rw [foR_yes hm' (by rw [← hlq]; exact h4)]
        exact ⟨rfl, hlq.symm⟩
      · rw [if_pos (.inl hq), if_neg]
        rintro ⟨a1, a2⟩
        have h5 : ¬ 4000 < (foB its).length := fun h5 => by
          rw [foR_long hm' h5] at a1
          simp at a1
        rw [foR_yes hm' h5] at a2
        dsimp only at a2
        rw [a2] at hlq
        have := congrArg List.length hlq
        rw [List.length_append] at this
        exact hq (List.eq_nil_of_length_eq_zero (by omega))

end Go.Proofs.Ytgdbdhfomlkpdaa
