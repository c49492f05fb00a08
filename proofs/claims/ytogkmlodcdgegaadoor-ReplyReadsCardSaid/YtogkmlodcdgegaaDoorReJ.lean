/-
  Package reply, in plain words: the document's way to read is the program's.
-/
import Derived.Test.YtogkmlodcdgegaaDoorReL
import Derived.Test.YtogkmlodcdgegaaDoorReI
namespace Go.Proofs.YtogkmlodcdgegaaDoor
open Go.RowKit

/-! ### Beginnings -/
theorem begB_no {a b : List UInt8} : begB a b = false ↔ ¬ a <+: b ∧ ¬ b <+: a := by
  rw [← Bool.not_eq_true, begB_iff, not_or]
theorem behind_ok {s t : List UInt8} (h : t <+: s) : behindL s t = (s.drop t.length, 0) := if_pos ((hp_iff s t).2 h)
theorem behind_short {s t : List UInt8} (h : ¬ t <+: s) (h2 : s <+: t) : behindL s t = ([], 3) := by
  unfold behindL
  rw [if_neg (fun e => h ((hp_iff s t).1 e)), if_pos ((hp_iff t s).2 h2)]
theorem behind_no {s t : List UInt8} (h : ¬ t <+: s) (h2 : ¬ s <+: t) : behindL s t = ([], 4) := by
  unfold behindL
  rw [if_neg (fun e => h ((hp_iff s t).1 e)), if_neg (fun e => h2 ((hp_iff t s).1 e))]
theorem begB_app (p a b : List UInt8) : begB (p ++ a) (p ++ b) = begB a b := by
  rw [Bool.eq_iff_iff, begB_iff, begB_iff, List.prefix_append_right_inj, List.prefix_append_right_inj]
theorem begB_short {a b : List UInt8} (h : begB a b = true) (h2 : ¬ a <+: b) : b <+: a ∧ b.length < a.length := by
  rcases (begB_iff a b).1 h with h3 | h3
  · exact absurd h3 h2
  · refine ⟨h3, ?_⟩
    have := h3.length_le
    by_cases e : b.length = a.length
    · exact absurd (h3.eq_of_length e ▸ List.prefix_refl _) h2
    · omega

/-- The error for 'short'. -/
def ec (s : Bool) : Int := if s then 3 else 4
/-- Where no head stands at the front. -/
theorem scan_none (l : List UInt8) : ∀ (vs : List Int) (s : Bool), (∀ v ∈ vs, ¬ headL v <+: l) → ∃ s', scanL vs l (ec s) = (0, l, ec s') ∧ loopD vs l s = .bad (ec s')
  | [], s, _ => ⟨s, rfl, by cases s <;> rfl⟩
  | v :: vs, s, h => by
    have hv := h v (by simp)
    have hr := fun s => scan_none l vs s (fun u hu => h u (by simp [hu]))
    by_cases h2 : l <+: headL v
    · have hb := behind_short hv h2
      obtain ⟨s', h3, h4⟩ := hr true
      refine ⟨s', ?_, ?_⟩
      · rw [scanL, if_neg (by rw [hb]; decide), if_pos (by rw [hb])]
        exact h3
      · have hbg : begB (headL v) l = true := (begB_iff _ _).2 (.inr h2)
        rw [loopD, if_neg (by rw [hbg]; decide), if_pos h2.length_le]
        exact h4
    · have hb := behind_no hv h2
      obtain ⟨s', h3, h4⟩ := hr s
      refine ⟨s', ?_, ?_⟩
      · rw [scanL, if_neg (by rw [hb]; decide), if_neg (by rw [hb]; decide)]
        exact h3
      · rw [loopD, if_pos (begB_no.2 ⟨hv, h2⟩)]
        exact h4
/-- Where none of some heads can come. -/
theorem loop_skip (l : List UInt8) : ∀ (vs us : List Int) (s : Bool), (∀ v ∈ vs, begB (headL v) l = false) → loopD (vs ++ us) l s = loopD us l s
  | [], us, s, _ => rfl
  | v :: vs, us, s, h => by
    rw [List.cons_append, loopD, if_pos (h v (by simp))]
    exact loop_skip l vs us s (fun u hu => h u (by simp [hu]))
theorem scan_skip (l : List UInt8) : ∀ (vs us : List Int) (e : Int), (∀ v ∈ vs, begB (headL v) l = false) → scanL (vs ++ us) l e = scanL us l e
  | [], us, e, _ => rfl
  | v :: vs, us, e, h => by
    have hb := begB_no.1 (h v (by simp))
    have hb2 := behind_no hb.1 hb.2
    rw [List.cons_append, scanL, if_neg (by rw [hb2]; decide), if_neg (by rw [hb2]; decide)]
    exact scan_skip l vs us e (fun u hu => h u (by simp [hu]))
theorem loop_nil (l : List UInt8) (s : Bool) : loopD [] l s = .bad (ec s) := by cases s <;> rfl

theorem tail_len (k : Bool) : (tailL k).length = if k then 23 else 4 := by cases k <;> rfl
theorem tails_apart {s : List UInt8} (h : tailL false <+: s) : begB (tailL true) s = false := by
  obtain ⟨r, rfl⟩ := h
  refine begB_no.2 ⟨fun h => ?_, fun h => ?_⟩
  · obtain ⟨q, hq⟩ := h
    simp [tailL] at hq
  · obtain ⟨q, hq⟩ := h
    simp [tailL] at hq

/-- What both ends tell, by the document. -/
theorem inner_at {v N : Int} {w S2 l : List UInt8} (hl : l = headL v ++ w ++ S2) (hw : Lib.itoa N = w) (hN0 : 0 ≤ N) (vs : List Int) (hvs : ∀ s, loopD vs l s = .bad (ec s)) :
    contD v N l vs 0 false = if (tailsL S2).2.2 ≠ 0 then .bad (tailsL S2).2.2 else if ((tailsL S2).1.length : Int) < N then .bad 3 else ⟨v, (tailsL S2).1.take N.toNat, (tailsL S2).2.1, (l.length : Int) - ((tailsL S2).1.length : Int) + N, 0⟩ := by
  have hf : ∀ k, fullL v N k = headL v ++ w ++ tailL k := fun k => by unfold fullL; rw [hw]
  have hbeg : ∀ k, begB (fullL v N k) l = begB (tailL k) S2 := fun k => by rw [hf, hl, begB_app]
  have hlen : ∀ k, (fullL v N k).length = (headL v ++ w).length + (tailL k).length := fun k => by rw [hf, List.length_append]
  have hll : l.length = (headL v ++ w).length + S2.length := by rw [hl, List.length_append]
  have hdrop : ∀ k, l.drop (fullL v N k).length = S2.drop (tailL k).length := fun k => by
    rw [hlen, hl, List.drop_append]
    simp
  have hc2 : ∀ s, contD v N l vs 2 s = .bad (ec s) := hvs
  -- one try
  have hno : ∀ k s, ¬ tailL k <+: S2 → ¬ S2 <+: tailL k → innerD v N l k s = (none, s) := fun k s h1 h2 => inner_no (by rw [hbeg]; exact begB_no.2 ⟨h1, h2⟩)
  have hsh : ∀ k s, ¬ tailL k <+: S2 → S2 <+: tailL k → innerD v N l k s = (none, true) := fun k s h1 h2 => by
    have hb : begB (tailL k) S2 = true := (begB_iff _ _).2 (.inr h2)
    have := (begB_short hb h1).2
    exact inner_short (by rw [hbeg]; exact hb) (.inl (by rw [hlen, hll]; omega))
  have hok : ∀ k s, tailL k <+: S2 → innerD v N l k s = if ((S2.drop (tailL k).length).length : Int) < N then (none, true) else (some ⟨v, (S2.drop (tailL k).length).take N.toNat, k, (l.length : Int) - ((S2.drop (tailL k).length).length : Int) + N, 0⟩, s) := fun k s h1 => by
    have hb : begB (tailL k) S2 = true := (begB_iff _ _).2 (.inl h1)
    have hle := h1.length_le
    have hdl : (S2.drop (tailL k).length).length = S2.length - (tailL k).length := List.length_drop
    by_cases hN : ((S2.drop (tailL k).length).length : Int) < N
    · rw [if_pos hN]
      exact inner_short (by rw [hbeg]; exact hb) (.inr (by rw [hlen, hll]; omega))
    · rw [if_neg hN, inner_yes (by rw [hbeg]; exact hb) (by rw [hlen, hll]; omega), hdrop]
      congr 3
      rw [hlen, hll]
      omega
  by_cases h0 : tailL false <+: S2
  · have ht : tailsL S2 = (S2.drop (tailL false).length, false, 0) := by
      unfold tailsL
      rw [behind_ok h0]
      exact if_pos rfl
    rw [ht]
    dsimp only
    rw [if_neg (by decide)]
    have h1 := hok false false h0
    by_cases hN : ((S2.drop (tailL false).length).length : Int) < N
    · rw [if_pos hN] at h1 ⊢
      rw [cont_none0 h1]
      have hap := begB_no.1 (tails_apart h0)
      rw [cont_none1 (hno true true hap.1 hap.2), hc2]
      rfl
    · rw [if_neg hN] at h1 ⊢
      rw [cont_some0 h1]
  · by_cases h1 : tailL true <+: S2
    · have hP : ¬ S2 <+: tailL false := fun h => by
        have a1 := h.length_le
        have a2 := h1.length_le
        rw [tail_len] at a1 a2
        simp at a1 a2
        omega
      have ht : tailsL S2 = (S2.drop (tailL true).length, true, 0) := by
        unfold tailsL
        rw [behind_no h0 hP, behind_ok h1]
        rfl
      rw [ht]
      dsimp only
      rw [if_neg (by decide), cont_none0 (hno false false h0 hP)]
      have h2 := hok true false h1
      by_cases hN : ((S2.drop (tailL true).length).length : Int) < N
      · rw [if_pos hN] at h2 ⊢
        rw [cont_none1 h2, hc2]
        rfl
      · rw [if_neg hN] at h2 ⊢
        rw [cont_some1 h2]
    · by_cases h2 : S2 <+: tailL false
      · have ht : (tailsL S2).2.2 = 3 := by
          unfold tailsL
          rw [behind_short h0 h2]
          by_cases h3 : S2 <+: tailL true
          · rw [behind_short h1 h3]
            rfl
          · rw [behind_no h1 h3]
            rfl
        rw [ht, if_pos (by decide), cont_none0 (hsh false false h0 h2)]
        by_cases h3 : S2 <+: tailL true
        · rw [cont_none1 (hsh true true h1 h3), hc2]
          rfl
        · rw [cont_none1 (hno true true h1 h3), hc2]
          rfl
      · rw [cont_none0 (hno false false h0 h2)]
        by_cases h3 : S2 <+: tailL true
        · have ht : (tailsL S2).2.2 = 3 := by
            unfold tailsL
            rw [behind_no h0 h2, behind_short h1 h3]
            rfl
          rw [ht, if_pos (by decide), cont_none1 (hsh true false h1 h3), hc2]
          rfl
        · have ht : (tailsL S2).2.2 = 4 := by
            unfold tailsL
            rw [behind_no h0 h2, behind_no h1 h3]
            rfl
          rw [ht, if_pos (by decide), cont_none1 (hno true false h1 h3), hc2]
          rfl

/-- Where one head stands at the front. -/
theorem loop_at {v : Int} {l S : List UInt8} (hl : l = headL v ++ S) (vs : List Int) (hvs : ∀ s, loopD vs l s = .bad (ec s)) : loopD (v :: vs) l false = afterL v l.length S := by
  have hb : begB (headL v) l = true := (begB_iff _ _).2 (.inl (hl ▸ List.prefix_append _ _))
  have hll : l.length = (headL v).length + S.length := by rw [hl, List.length_append]
  rw [loopD, if_neg (by rw [hb]; decide)]
  by_cases hS : S = []
  · subst hS
    rw [if_pos (by rw [hll]; simp), hvs]
    unfold afterL
    have : numberL [] = (0, [], 3) := if_pos rfl
    rw [this, if_pos (by decide)]
    rfl
  · have hpos := List.length_pos_iff.2 hS
    rw [if_neg (by omega)]
    have hd : l.drop (headL v).length = S := by rw [hl, List.drop_left]
    have hw : digitsL l (headL v).length = S.take (min (runL S) 20) := by unfold digitsL; rw [hd]
    rw [hw]
    by_cases hK : runL S ≤ 20
    · rw [Nat.min_eq_left hK]
      have hwl : (S.take (runL S)).length = runL S := by rw [List.length_take]; have := runL_le S; omega
      by_cases hE : (numR ⟨(S.take (runL S)).toArray⟩).2 = 0
      · rw [if_neg (by simp [hE])]
        have hnum : numberL S = ((numR ⟨(S.take (runL S)).toArray⟩).1, S.drop (runL S), 0) := by
          unfold numberL
          rw [if_neg hS, if_neg (by simp [hE])]
        obtain ⟨N, hN⟩ : ∃ N, (numR ⟨(S.take (runL S)).toArray⟩).1 = N := ⟨_, rfl⟩
        have hNR : numR ⟨(S.take (runL S)).toArray⟩ = (N, 0) := Prod.ext hN hE
        have hN0 : 0 ≤ N := by rw [← hN]; exact (numR_range _).1
        rw [hN] at hnum ⊢
        unfold afterL
        rw [hnum]
        dsimp only
        rw [if_neg (show ¬ ((0 : Int) ≠ 0) by decide)]
        by_cases hl2 : l.length = (headL v).length + (S.take (runL S)).length
        · have hnil : S.drop (runL S) = [] := List.drop_eq_nil_of_le (by omega)
          have ht : (tailsL []).2.2 = 3 := by decide +kernel
          rw [if_pos hl2, hvs, hnil, ht, if_pos (by decide)]
          rfl
        · rw [if_neg hl2]
          have := inner_at (v := v) (N := N) (w := S.take (runL S)) (S2 := S.drop (runL S)) (l := l) (by rw [List.append_assoc, List.take_append_drop]; exact hl) (itoa_back hNR) hN0 vs hvs
          exact this
      · rw [if_pos hE, hvs]
        have hnum : numberL S = (0, [], 4) := by
          unfold numberL
          rw [if_neg hS, if_pos hE]
        unfold afterL
        rw [hnum, if_pos (by decide)]
        rfl
    · rw [Nat.min_eq_right (by omega)]
      have hr := runL_le S
      have h20 : (numR ⟨(S.take 20).toArray⟩).2 ≠ 0 := numR_many (by rw [size_mk, List.length_take]; omega)
      have hrr : (numR ⟨(S.take (runL S)).toArray⟩).2 ≠ 0 := numR_many (by rw [size_mk, List.length_take]; omega)
      rw [if_pos h20, hvs]
      have hnum : numberL S = (0, [], 4) := by
        unfold numberL
        rw [if_neg hS, if_pos hrr]
      unfold afterL
      rw [hnum, if_pos (by decide)]
      rfl

theorem mem_sts {v : Int} (h : v ∈ sts) : ∃ k : Fin 11, stI k.1 = v := by
  unfold sts at h
  obtain ⟨k, hk, rfl⟩ := List.mem_map.1 h
  exact ⟨⟨k, List.mem_range.1 hk⟩, rfl⟩
theorem sts_split (k : Nat) (h : k < 11) : sts = sts.take k ++ stI k :: sts.drop (k + 1) := by
  rw [← sts_drop k h, List.take_append_drop]
theorem others {l : List UInt8} {i : Fin 11} (h : headL (stI i.1) <+: l) {j : Fin 11} (hj : j ≠ i) : begB (headL (stI j.1)) l = false := by
  have a1 : ¬ headL (stI j.1) <+: headL (stI i.1) := fun e => by
    have := heads_apart j i hj
    rw [List.isPrefixOf_iff_prefix.2 e] at this
    cases this
  have a2 : ¬ headL (stI i.1) <+: headL (stI j.1) := fun e => by
    have := heads_apart i j (Ne.symm hj)
    rw [List.isPrefixOf_iff_prefix.2 e] at this
    cases this
  refine begB_no.2 ⟨fun e => ?_, fun e => a2 (h.trans e)⟩
  rcases Nat.le_total (headL (stI j.1)).length (headL (stI i.1)).length with hle | hle
  · exact a1 (List.prefix_of_prefix_length_le e h hle)
  · exact a2 (List.prefix_of_prefix_length_le h e hle)
theorem sts_nodup : ∀ i j : Fin 11, stI i.1 = stI j.1 → i = j := by decide
theorem take_mem {k : Nat} (hk : k < 11) {v : Int} (h : v ∈ sts.take k) : ∃ j : Fin 11, stI j.1 = v ∧ j.1 < k := by
  unfold sts at h
  rw [← List.map_take, List.take_range] at h
  obtain ⟨j, hj, rfl⟩ := List.mem_map.1 h
  have := List.mem_range.1 hj
  exact ⟨⟨j, by omega⟩, rfl, by dsimp only; omega⟩
theorem drop_mem {k : Nat} {v : Int} (h : v ∈ sts.drop (k + 1)) : ∃ j : Fin 11, stI j.1 = v ∧ k < j.1 := by
  unfold sts at h
  rw [← List.map_drop] at h
  obtain ⟨j, hj, rfl⟩ := List.mem_map.1 h
  obtain ⟨i, hi, rfl⟩ := List.mem_iff_getElem.1 hj
  simp at hi ⊢
  exact ⟨⟨k + 1 + i, by omega⟩, rfl, by dsimp only; omega⟩

/-- Both ways are one. -/
theorem take_same (l : List UInt8) : loopD sts l false = takeP l := by
  by_cases h : ∃ i : Fin 11, headL (stI i.1) <+: l
  · obtain ⟨i, hi⟩ := h
    obtain ⟨S, hS⟩ := hi
    have hp : headL (stI i.1) <+: l := ⟨S, hS⟩
    have hpre : ∀ v ∈ sts.take i.1, begB (headL v) l = false := fun v hv => by
      obtain ⟨j, rfl, hj⟩ := take_mem i.2 hv
      exact others hp (fun e => by rw [e] at hj; omega)
    have hpost : ∀ v ∈ sts.drop (i.1 + 1), begB (headL v) l = false := fun v hv => by
      obtain ⟨j, rfl, hj⟩ := drop_mem hv
      exact others hp (fun e => by rw [e] at hj; omega)
    have hvs : ∀ s, loopD (sts.drop (i.1 + 1)) l s = .bad (ec s) := fun s => by
      have := loop_skip l (sts.drop (i.1 + 1)) [] s hpost
      rw [List.append_nil] at this
      rw [this, loop_nil]
    have hsc : scanL sts l 4 = (stI i.1, S, 0) := by
      rw [sts_split i.1 i.2, scan_skip l _ _ 4 hpre, scanL, behind_ok hp, if_pos rfl, ← hS, List.drop_left]
    unfold takeP
    rw [hsc, if_neg (show ¬ ((stI i.1, S, (0 : Int)).2.2 ≠ 0) by simp), sts_split i.1 i.2, loop_skip l _ _ false hpre, loop_at hS.symm _ hvs]
  · obtain ⟨s', h1, h2⟩ := scan_none l sts false (fun v hv e => by
      obtain ⟨k, rfl⟩ := mem_sts hv
      exact h ⟨k, e⟩)
    have h1' : scanL sts l 4 = (0, l, ec s') := h1
    unfold takeP
    rw [h1', h2, if_pos (show (0, l, ec s').2.2 ≠ 0 by cases s' <;> simp [ec])]

end Go.Proofs.YtogkmlodcdgegaaDoor
