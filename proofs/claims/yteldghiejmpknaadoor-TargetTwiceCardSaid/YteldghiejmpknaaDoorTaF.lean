/-
  Plain: what a target says; the same, forwards, name by name.
-/
import Derived.Test.YteldghiejmpknaaDoorTaE
namespace Go.Proofs.YteldghiejmpknaaDoor
open Go.RowKit

abbrev Pm := List UInt8 × List UInt8
abbrev TgR := List (List UInt8) × List Pm × Nat
def mapP {β : Type} (f : List UInt8 → Option β) : List (List UInt8) → Option (List β)
  | [] => some []
  | x :: xs => (f x).bind fun y => (mapP f xs).map (y :: ·)
def nameF (s : List UInt8) : Option (List UInt8) := (partF s).bind fun o => if o = [] then none else some o
def pathC : List UInt8 → Option (List (List UInt8))
  | [] => some []
  | x :: l => if x = 47 then mapP nameF (split1 47 l) else none
theorem pathC_go (l : List UInt8) : pathC (47 :: l) = mapP nameF (split1 47 l) := by rw [pathC, if_pos rfl]
def pathF (s : List UInt8) : Option (List (List UInt8)) :=
  if s = [47] then some [] else match s with
    | [] => none
    | x :: l => if x = 47 then mapP nameF (split1 47 l) else none
def parF (s : List UInt8) : Option Pm := if (cut1 61 s).2.2 then (nameF (cut1 61 s).1).bind fun n => (partF (cut1 61 s).2.1).map fun v => (n, v) else none
def queryF (s : List UInt8) : Option (List Pm) := mapP parF (split1 38 s)
/-- May the parameter k stand behind those ahead of it? -/
def GoodQ (Q : List Pm) (k : Nat) : Prop := ∀ q, Q[k]? = some q → q.1 ≠ [] ∧ (0 : UInt8) ∉ q.1 ∧ (0 : UInt8) ∉ q.2 ∧ ∀ (j : Nat) p, j < k → Q[j]? = some p → p.1 ≠ q.1
def GoodP (p : List UInt8) : Prop := p ≠ [] ∧ (0 : UInt8) ∉ p
def MayP (P : List (List UInt8)) (Q : List Pm) : Prop := (∀ p ∈ P, GoodP p) ∧ ∀ k, GoodQ Q k
open Classical in
noncomputable def mayF (P : List (List UInt8)) (Q : List Pm) : Bool := decide (MayP P Q)
theorem mayF_yes {P : List (List UInt8)} {Q : List Pm} (h : MayP P Q) : mayF P Q = true := by
  unfold mayF
  exact @decide_eq_true _ (Classical.propDecidable _) h
theorem mayF_no {P : List (List UInt8)} {Q : List Pm} (h : ¬ MayP P Q) : mayF P Q = false := by
  unfold mayF
  exact @decide_eq_false _ (Classical.propDecidable _) h
theorem mayF_iff {P : List (List UInt8)} {Q : List Pm} : mayF P Q = true ↔ MayP P Q := by
  unfold mayF
  exact @decide_eq_true_iff _ (Classical.propDecidable _)
noncomputable def finF (P : List (List UInt8)) (Q : List Pm) : TgR := if mayF P Q then (P, Q, 0) else ([], [], 6)
noncomputable def contQ (P : List (List UInt8)) (Q : List Pm) (l : List UInt8) : TgR := match queryF l with
  | none => ([], [], 4)
  | some R => finF P (Q ++ R)
noncomputable def contEnd (P : List (List UInt8)) (a : List UInt8) (f : Bool) : TgR := if f then contQ P [] a else finF P []
noncomputable def contP (P : List (List UInt8)) (l : List UInt8) : TgR := match pathC (cut1 63 l).1 with
  | none => ([], [], 4)
  | some P' => contEnd (P ++ P') (cut1 63 l).2.1 (cut1 63 l).2.2
noncomputable def parseF (s : List UInt8) : TgR := match pathF (cut1 63 s).1 with
  | none => ([], [], 4)
  | some P => contEnd P (cut1 63 s).2.1 (cut1 63 s).2.2

theorem cut1_pre (c : UInt8) (l : List UInt8) : ∃ r, l = (cut1 c l).1 ++ r ∧ (r = [] ∨ ∃ t, r = c :: t) := by
  cases h : (cut1 c l).2.2
  · obtain ⟨h1, _⟩ := cut1_none c l h
    exact ⟨[], by rw [h1, List.append_nil], .inl rfl⟩
  · exact ⟨c :: (cut1 c l).2.1, cut1_app c l h, .inr ⟨_, rfl⟩⟩
theorem split1_head (c : UInt8) (l : List UInt8) : ∃ ps, split1 c l = (cut1 c l).1 :: ps := by
  rw [split1_cut]
  cases h : (cut1 c l).2.2
  · obtain ⟨h1, _⟩ := cut1_none c l h
    exact ⟨[], by rw [h1]; rfl⟩
  · exact ⟨_, rfl⟩
theorem nameF_some {s o : List UInt8} (h : nameF s = some o) : partF s = some o ∧ o ≠ [] := by
  obtain ⟨o2, h1, h2⟩ := Option.bind_eq_some_iff.1 h
  split at h2
  · cases h2
  · rename_i hn
    obtain rfl := Option.some.inj h2
    exact ⟨h1, hn⟩
theorem nameF_of {s o : List UInt8} (h : partF s = some o) (hn : o ≠ []) : nameF s = some o := by
  unfold nameF
  rw [h]
  exact if_neg hn
theorem nameF_stop {a : List UInt8} {x : UInt8} {t : List UInt8} (hx : stopB x) (h : partF a ≠ none) : nameF (a ++ x :: t) = none := by
  unfold nameF
  rw [part_stop_in _ a (Nat.le_refl _) x t hx h]
  rfl
theorem some_ne {α : Type} {x : Option α} {a : α} (h : x = some a) : x ≠ none := by rw [h]; exact fun h => by cases h
theorem part_goes {a o : List UInt8} (h : partF a = some o) {rest : List UInt8} (hr : endL rest) : rpartF (a ++ rest) = some (o, rest) := part_go _ a o (Nat.le_refl _) h rest hr
theorem part_none {l o : List UInt8} (h : partF l = some o) : (0 : UInt8) ∉ o := (part_zero _ l o (Nat.le_refl _) h).1
theorem part_le {l o : List UInt8} (h : partF l = some o) : o.length ≤ l.length := (part_zero _ l o (Nat.le_refl _) h).2.1

/-! ### the path -/
theorem cont_step (P : List (List UInt8)) {pre o rest : List UInt8} (h : partF pre = some o) (ho : o ≠ []) (hr : endL rest) : contP P (47 :: (pre ++ rest)) = contP (P ++ [o]) rest := by
  have h47 := part_not h no47
  have h63 := part_not h no63
  have h63' : (63 : UInt8) ∉ (47 : UInt8) :: pre := by simp [h63]
  have hc : cut1 63 (47 :: (pre ++ rest)) = (47 :: (pre ++ (cut1 63 rest).1), (cut1 63 rest).2) := by
    have := cut1_front h63' rest
    rw [List.cons_append] at this
    rw [this]
    rfl
  have hb : (cut1 63 rest).1 = [] ∨ ∃ x t, stopB x ∧ (cut1 63 rest).1 = x :: t := by
    match rest, hr with
    | [], _ => exact .inl rfl
    | x :: t, hr =>
      rw [cut1]
      split
      · exact .inl rfl
      · exact .inr ⟨x, _, hr x t rfl, rfl⟩
  unfold contP
  rw [hc]
  dsimp only
  rcases hb with hb | ⟨x, t, hx, hb⟩
  · rw [hb, List.append_nil, pathC_go, split1_none h47]
    simp [mapP, nameF_of h ho, pathC]
  · rw [hb, pathC_go]
    by_cases hx47 : x = 47
    · subst hx47
      rw [split1_front h47, mapP, nameF_of h ho, pathC_go]
      cases mapP nameF (split1 47 t) with
      | none => rfl
      | some P' => simp
    · rw [pathC, if_neg hx47]
      obtain ⟨ps, hps⟩ := split1_head 47 (pre ++ x :: t)
      have hf : (cut1 47 (pre ++ x :: t)).1 = pre ++ x :: (cut1 47 t).1 := by
        rw [cut1_front h47, cut1, if_neg hx47]
      rw [hps, hf, mapP, nameF_stop hx (some_ne h)]
      rfl
theorem pathC_some {l P : List UInt8} {Q : List (List UInt8)} (h : pathC (cut1 63 (47 :: l)).1 = some Q) : ∃ o r, o ≠ [] ∧ rpartF l = some (o, r) := by
  have hc : (cut1 63 (47 :: l)).1 = 47 :: (cut1 63 l).1 := by rw [cut1, if_neg (by decide)]
  rw [hc, pathC_go] at h
  obtain ⟨ps, hps⟩ := split1_head 47 (cut1 63 l).1
  rw [hps, mapP] at h
  obtain ⟨o, ho, _⟩ := Option.bind_eq_some_iff.1 h
  obtain ⟨h1, h2⟩ := nameF_some ho
  obtain ⟨r1, e1, c1⟩ := cut1_pre 63 l
  obtain ⟨r2, e2, c2⟩ := cut1_pre 47 (cut1 63 l).1
  have e : l = (cut1 47 (cut1 63 l).1).1 ++ (r2 ++ r1) := by rw [← List.append_assoc, ← e2, ← e1]
  have hr : endL (r2 ++ r1) := by
    rcases c2 with rfl | ⟨t, rfl⟩
    · rcases c1 with rfl | ⟨t, rfl⟩
      · exact endL_nil
      · exact endL_cons _ stop63
    · exact endL_cons _ stop47
  refine ⟨o, r2 ++ r1, h2, ?_⟩
  have := part_goes h1 hr
  rw [← e] at this
  exact this
theorem cont_bad (P : List (List UInt8)) {l : List UInt8} (h : ∀ o r, rpartF l = some (o, r) → o = []) : contP P (47 :: l) = ([], [], 4) := by
  unfold contP
  cases hq : pathC (cut1 63 (47 :: l)).1 with
  | none => rfl
  | some Q =>
    obtain ⟨o, r, h1, h2⟩ := pathC_some (P := []) hq
    exact absurd (h o r h2) h1
theorem cont_nil (P : List (List UInt8)) : contP P [] = finF P [] := by
  unfold contP
  simp [cut1, pathC, contEnd]
theorem cont_query (P : List (List UInt8)) (t : List UInt8) : contP P (63 :: t) = contQ P [] t := by
  unfold contP
  rw [cut1_hit]
  simp [pathC, contEnd]
theorem cont_other (P : List (List UInt8)) {x : UInt8} (t : List UInt8) (h1 : x ≠ 47) (h2 : x ≠ 63) : contP P (x :: t) = ([], [], 4) := by
  unfold contP
  rw [cut1, if_neg h2]
  simp [pathC, h1]
theorem parse_nil : parseF [] = ([], [], 4) := rfl
theorem parse_other {x : UInt8} (t : List UInt8) (h : x ≠ 47) : parseF (x :: t) = ([], [], 4) := by
  unfold parseF
  have hp : pathF (cut1 63 (x :: t)).1 = none := by
    rw [cut1]
    split
    · rfl
    · simp [pathF, h]
  rw [hp]
theorem parse_root : parseF [47] = contP [] [] := by
  rw [cont_nil]
  rfl
theorem parse_rootQ (t : List UInt8) : parseF (47 :: 63 :: t) = contP [] (63 :: t) := by
  rw [cont_query]
  unfold parseF
  have : cut1 63 (47 :: 63 :: t) = ([47], t, true) := by rw [cut1, if_neg (by decide), cut1_hit]
  rw [this]
  simp [pathF, contEnd]
theorem parse_path {y : UInt8} (t : List UInt8) (h : y ≠ 63) : parseF (47 :: y :: t) = contP [] (47 :: y :: t) := by
  unfold parseF contP
  have : (cut1 63 (47 :: y :: t)).1 = 47 :: y :: (cut1 63 t).1 := by rw [cut1, if_neg (by decide), cut1, if_neg h]
  rw [this]
  simp [pathF, pathC]

/-! ### the query -/
theorem parF_of {a b n v : List UInt8} (h1 : partF a = some n) (hn : n ≠ []) (h2 : partF b = some v) : parF (a ++ 61 :: b) = some (n, v) := by
  unfold parF
  rw [cut1_front (part_not h1 no61), cut1_hit]
  simp [nameF_of h1 hn, h2]
theorem query_end (P : List (List UInt8)) (Q : List Pm) {a b n v : List UInt8} (h1 : partF a = some n) (hn : n ≠ []) (h2 : partF b = some v) : contQ P Q (a ++ 61 :: b) = finF P (Q ++ [(n, v)]) := by
  have h38 : (38 : UInt8) ∉ a ++ 61 :: b := by
    have := part_not h1 no38
    have := part_not h2 no38
    simp [*]
  unfold contQ queryF
  rw [split1_none h38]
  simp [mapP, parF_of h1 hn h2]
theorem query_step (P : List (List UInt8)) (Q : List Pm) {a b n v : List UInt8} (h1 : partF a = some n) (hn : n ≠ []) (h2 : partF b = some v) (t : List UInt8) : contQ P Q (a ++ 61 :: b ++ 38 :: t) = contQ P (Q ++ [(n, v)]) t := by
  have h38 : (38 : UInt8) ∉ a ++ 61 :: b := by
    have := part_not h1 no38
    have := part_not h2 no38
    simp [*]
  unfold contQ queryF
  rw [split1_front h38, mapP, parF_of h1 hn h2]
  cases mapP parF (split1 38 t) with
  | none => rfl
  | some R => simp
theorem query_some {l : List UInt8} (h : queryF l ≠ none) : ∃ n l2 v r, n ≠ [] ∧ rpartF l = some (n, 61 :: l2) ∧ rpartF l2 = some (v, r) ∧ (r = [] ∨ ∃ t, r = 38 :: t) := by
  unfold queryF at h
  obtain ⟨ps, hps⟩ := split1_head 38 l
  rw [hps, mapP] at h
  cases hp : parF (cut1 38 l).1 with
  | none => rw [hp] at h; exact absurd rfl h
  | some q =>
    obtain ⟨r, e, hr⟩ := cut1_pre 38 l
    generalize (cut1 38 l).1 = q0 at hp e
    unfold parF at hp
    split at hp
    · rename_i hf
      obtain ⟨n, hn, hp⟩ := Option.bind_eq_some_iff.1 hp
      obtain ⟨v, hv, _⟩ := Option.map_eq_some_iff.1 hp
      obtain ⟨n1, n2⟩ := nameF_some hn
      have e2 := cut1_app 61 q0 hf
      generalize (cut1 61 q0).1 = a at *
      generalize (cut1 61 q0).2.1 = b at *
      have hre : endL r := by
        rcases hr with rfl | ⟨t, rfl⟩
        · exact endL_nil
        · exact endL_cons _ stop38
      refine ⟨n, b ++ r, v, r, n2, ?_, part_goes hv hre, hr⟩
      have := part_goes n1 (endL_cons (b ++ r) stop61)
      rw [e, e2]
      simpa using this
    · cases hp
theorem query_bad (P : List (List UInt8)) (Q : List Pm) {l : List UInt8} (h : ∀ n l2 v r, n ≠ [] → rpartF l = some (n, 61 :: l2) → rpartF l2 = some (v, r) → (r = [] ∨ ∃ t, r = 38 :: t) → False) : contQ P Q l = ([], [], 4) := by
  unfold contQ
  cases hq : queryF l with
  | none => rfl
  | some R =>
    obtain ⟨n, l2, v, r, h1, h2, h3, h4⟩ := query_some (some_ne hq)
    exact absurd (h n l2 v r h1 h2 h3 h4) id
/-- The step, in the words of the document's way. -/
theorem query_go (P : List (List UInt8)) (Q : List Pm) {l n l2 v r : List UInt8} (hn : n ≠ []) (h1 : rpartF l = some (n, 61 :: l2)) (h2 : rpartF l2 = some (v, r)) :
    (r = [] → contQ P Q l = finF P (Q ++ [(n, v)])) ∧ ∀ t, r = 38 :: t → contQ P Q l = contQ P (Q ++ [(n, v)]) t := by
  obtain ⟨a, rfl, ha, _⟩ := rpart_some _ l n _ (Nat.le_refl _) h1
  obtain ⟨b, rfl, hb, _⟩ := rpart_some _ l2 v r (Nat.le_refl _) h2
  refine ⟨fun e => ?_, fun t e => ?_⟩
  · subst e
    rw [List.append_nil]
    exact query_end P Q ha hn hb
  · subst e
    have := query_step P Q ha hn hb t
    simpa using this
theorem path_go (P : List (List UInt8)) {l o r : List UInt8} (ho : o ≠ []) (h : rpartF l = some (o, r)) : contP P (47 :: l) = contP (P ++ [o]) r := by
  obtain ⟨a, rfl, ha, hr⟩ := rpart_some _ l o r (Nat.le_refl _) h
  exact cont_step P ha ho hr
theorem good_of {l o r : List UInt8} (ho : o ≠ []) (h : rpartF l = some (o, r)) : GoodP o := by
  obtain ⟨a, rfl, ha, hr⟩ := rpart_some _ l o r (Nat.le_refl _) h
  exact ⟨ho, part_none ha⟩
theorem fin_path {P : List (List UInt8)} (h : ∀ p ∈ P, GoodP p) : finF P [] = (P, [], 0) := by
  unfold finF
  rw [mayF_yes ⟨h, fun k q hq => by simp at hq⟩]
  rfl
theorem rpart_len {l o r : List UInt8} (h : rpartF l = some (o, r)) : r.length ≤ l.length ∧ o.length ≤ l.length := by
  obtain ⟨a, rfl, ha, hr⟩ := rpart_some _ l o r (Nat.le_refl _) h
  have := part_le ha
  simp
  omega

/-! ### printed -/
def hexU (d : Nat) : UInt8 := UInt8.ofNat (if d < 10 then 48 + d else 55 + d)
def escB (x : UInt8) : List UInt8 := if plB x then [x] else [37, hexU (x.toNat / 16), hexU (x.toNat % 16)]
def escL (s : List UInt8) : List UInt8 := s.flatMap escB
def printQ : UInt8 → List Pm → List UInt8
  | _, [] => []
  | m, q :: Q => m :: (escL q.1 ++ 61 :: (escL q.2 ++ printQ 38 Q))
def printP (P : List (List UInt8)) : List UInt8 := P.flatMap fun p => 47 :: escL p
def rootP (P : List (List UInt8)) : List UInt8 := if P = [] then [47] else printP P
def printF (P : List (List UInt8)) (Q : List Pm) : List UInt8 := rootP P ++ printQ 63 Q
def chkU (x : UInt8) : Bool := plB x || x == 0 || escV (hexU (x.toNat / 16)) (hexU (x.toNat % 16)) == some x
theorem chkU_fin : ∀ c : Fin 256, chkU (UInt8.ofNat c.1) = true := by decide +kernel
theorem esc_back {x : UInt8} (h0 : x ≠ 0) (hp : plB x = false) : escV (hexU (x.toNat / 16)) (hexU (x.toNat % 16)) = some x := by
  have := chkU_fin ⟨x.toNat, x.toNat_lt⟩
  have e : UInt8.ofNat x.toNat = x := by simp
  dsimp only at this
  rw [e] at this
  simpa [chkU, hp, h0] using this
theorem part_escL : ∀ (p : List UInt8), (0 : UInt8) ∉ p → partF (escL p) = some p
  | [], _ => rfl
  | x :: p, h => by
    have ih := part_escL p (fun hm => h (by simp [hm]))
    have e : escL (x :: p) = escB x ++ escL p := rfl
    rw [e]
    unfold escB
    cases hx : plB x
    · rw [if_neg (by exact Bool.false_ne_true)]
      show partF (37 :: _ :: _ :: escL p) = _
      rw [partF_esc, esc_back (fun e => h (by simp [e])) hx, ih]
      rfl
    · rw [if_pos rfl]
      show partF (x :: escL p) = _
      rw [partF_pl hx, ih]
      rfl
theorem escL_app (a b : List UInt8) : escL (a ++ b) = escL a ++ escL b := by simp [escL]
theorem escL_len : ∀ p : List UInt8, (escL p).length ≤ 3 * p.length
  | [] => Nat.le_refl _
  | x :: p => by
    have ih := escL_len p
    have e : escL (x :: p) = escB x ++ escL p := rfl
    rw [e, List.length_append, List.length_cons]
    have : (escB x).length ≤ 3 := by
      unfold escB
      split <;> simp
    omega
theorem printQ_end (m : UInt8) (hm : stopB m) (Q : List Pm) : endL (printQ m Q) := by
  cases Q with
  | nil => exact endL_nil
  | cons q Q => exact endL_cons _ hm
theorem cont_print : ∀ (P : List (List UInt8)) (P0 : List (List UInt8)) (rest : List UInt8), (∀ p ∈ P, GoodP p) → endL rest → contP P0 (printP P ++ rest) = contP (P0 ++ P) rest
  | [], P0, rest, _, _ => by simp [printP]
  | p :: P, P0, rest, h, hr => by
    have hp := h p (by simp)
    have e : printP (p :: P) ++ rest = 47 :: (escL p ++ (printP P ++ rest)) := by simp [printP]
    have hr2 : endL (printP P ++ rest) := by
      cases P with
      | nil => simpa [printP] using hr
      | cons p2 P => exact endL_cons _ stop47
    rw [e, cont_step P0 (part_escL p hp.2) hp.1 hr2, cont_print P _ rest (fun q hq => h q (by simp [hq])) hr]
    simp
theorem queryQ_print : ∀ (Q : List Pm) (P : List (List UInt8)) (Q0 : List Pm) (q : Pm), (∀ p ∈ q :: Q, GoodP p.1 ∧ (0 : UInt8) ∉ p.2) → contQ P Q0 (escL q.1 ++ 61 :: (escL q.2 ++ printQ 38 Q)) = finF P (Q0 ++ q :: Q)
  | [], P, Q0, q, h => by
    obtain ⟨⟨h1, h2⟩, h3⟩ := h q (by simp)
    rw [printQ, List.append_nil]
    exact query_end P Q0 (part_escL _ h2) h1 (part_escL _ h3)
  | q2 :: Q, P, Q0, q, h => by
    obtain ⟨⟨h1, h2⟩, h3⟩ := h q (by simp)
    have := query_step P Q0 (part_escL _ h2) h1 (part_escL _ h3) (escL q2.1 ++ 61 :: (escL q2.2 ++ printQ 38 Q))
    rw [printQ]
    have e : escL q.1 ++ 61 :: (escL q.2 ++ 38 :: (escL q2.1 ++ 61 :: (escL q2.2 ++ printQ 38 Q))) = escL q.1 ++ 61 :: escL q.2 ++ 38 :: (escL q2.1 ++ 61 :: (escL q2.2 ++ printQ 38 Q)) := by simp
    rw [e, this, queryQ_print Q P _ q2 (fun p hp => h p (by simp [hp]))]
    simp
theorem goodQ_of {Q : List Pm} (h : ∀ k, GoodQ Q k) : ∀ p ∈ Q, GoodP p.1 ∧ (0 : UInt8) ∉ p.2 := by
  intro p hp
  obtain ⟨k, hk⟩ := List.mem_iff_getElem?.1 hp
  obtain ⟨h1, h2, h3, _⟩ := h k p hk
  exact ⟨⟨h1, h2⟩, h3⟩
theorem escL_head {p : List UInt8} (h : p ≠ []) : ∃ x t, escL p = x :: t ∧ x ≠ 63 := by
  match p, h with
  | x :: p, _ =>
    have e : escL (x :: p) = escB x ++ escL p := rfl
    rw [e]
    unfold escB
    cases hx : plB x
    · exact ⟨37, _, rfl, by decide⟩
    · refine ⟨x, _, rfl, ?_⟩
      rintro rfl
      revert hx
      decide
/-- What is printed is read forwards from its path's front on. -/
theorem parse_rootP {P : List (List UInt8)} (h : ∀ p ∈ P, GoodP p) {rest : List UInt8} (hr : rest = [] ∨ ∃ t, rest = 63 :: t) : parseF (rootP P ++ rest) = contP P rest := by
  have hre : endL rest := by
    rcases hr with rfl | ⟨t, rfl⟩
    · exact endL_nil
    · exact endL_cons _ stop63
  cases P with
  | nil =>
    rcases hr with rfl | ⟨t, rfl⟩
    · exact parse_root
    · exact parse_rootQ t
  | cons p P =>
    have hp := h p (by simp)
    obtain ⟨x, t, e, hx⟩ := escL_head hp.1
    have e1 : rootP (p :: P) ++ rest = 47 :: x :: (t ++ (printP P ++ rest)) := by
      simp [rootP, printP, e]
    have e2 : printP (p :: P) ++ rest = 47 :: x :: (t ++ (printP P ++ rest)) := by
      simp [printP, e]
    rw [e1, parse_path _ hx, ← e2, cont_print (p :: P) [] rest h hre]
    rfl
theorem parse_print {P : List (List UInt8)} {Q : List Pm} (h : mayF P Q = true) : parseF (printF P Q) = (P, Q, 0) := by
  obtain ⟨h1, h2⟩ := mayF_iff.1 h
  have hf : finF P Q = (P, Q, 0) := by
    unfold finF
    rw [h]
    rfl
  unfold printF
  cases Q with
  | nil =>
    rw [printQ, parse_rootP h1 (.inl rfl), cont_nil]
    exact hf
  | cons q Q =>
    rw [printQ, parse_rootP h1 (.inr ⟨_, rfl⟩), cont_query, queryQ_print Q P [] q (goodQ_of h2)]
    exact hf

end Go.Proofs.YteldghiejmpknaaDoor
