/-
  Plain: what a part of a target says, forwards and by the document's way.
-/
import Derived.Test.YteldghiejmpknaaDoorTaA
import Derived.Test.YteldghiejmpknaaDoorCut1
namespace Go.Proofs.YteldghiejmpknaaDoor
open Go.RowKit

def hx8 (x : UInt8) : Int := hxI (x.toNat : Int)
/-- The byte that two digits say: none where one is no digit, or the byte is 0. -/
def escV (a b : UInt8) : Option UInt8 := if hx8 a < 0 ∨ hx8 b < 0 ∨ hx8 a + hx8 b = 0 then none else some (UInt8.ofNat (hx8 a * 16 + hx8 b).toNat)
def partF : List UInt8 → Option (List UInt8)
  | [] => some []
  | [x] => if plB x then some [x] else none
  | [x, y] => if plB x then (partF [y]).map (x :: ·) else none
  | x :: a :: b :: r => if plB x then (partF (a :: b :: r)).map (x :: ·) else if x = 37 then (escV a b).bind fun c => (partF r).map (c :: ·) else none
def rpartF : List UInt8 → Option (List UInt8 × List UInt8)
  | [] => some ([], [])
  | [x] => if plB x then some ([x], []) else if x = 37 then none else some ([], [x])
  | [x, y] => if plB x then (rpartF [y]).map (fun p => (x :: p.1, p.2)) else if x = 37 then none else some ([], [x, y])
  | x :: a :: b :: r => if plB x then (rpartF (a :: b :: r)).map (fun p => (x :: p.1, p.2)) else if x = 37 then (escV a b).bind fun c => (rpartF r).map (fun p => (c :: p.1, p.2)) else some ([], x :: a :: b :: r)
def stopB (x : UInt8) : Prop := plB x = false ∧ x ≠ 37
def endL (l : List UInt8) : Prop := ∀ x t, l = x :: t → stopB x
theorem endL_nil : endL [] := fun x t h => by cases h
theorem endL_cons {x : UInt8} (t : List UInt8) (h : stopB x) : endL (x :: t) := fun y t' e => by cases e; exact h
theorem pl37 : plB 37 = false := by decide

theorem partF_pl {x : UInt8} (h : plB x = true) (l : List UInt8) : partF (x :: l) = (partF l).map (x :: ·) := by
  match l with
  | [] => simp [partF, h]
  | [y] => simp [partF, h]
  | a :: b :: r => rw [partF, if_pos h]
theorem partF_esc (a b : UInt8) (r : List UInt8) : partF (37 :: a :: b :: r) = (escV a b).bind fun c => (partF r).map (c :: ·) := by
  rw [partF, if_neg (by rw [pl37]; exact Bool.false_ne_true), if_pos rfl]
theorem partF_stop {x : UInt8} (h : stopB x) (l : List UInt8) : partF (x :: l) = none := by
  obtain ⟨h1, h2⟩ := h
  match l with
  | [] => simp [partF, h1]
  | [y] => simp [partF, h1]
  | a :: b :: r => simp [partF, h1, h2]
theorem partF_short {l : List UInt8} (h : l.length < 2) : partF (37 :: l) = none := by
  match l, h with
  | [], _ => rfl
  | [y], _ => rfl
theorem rpartF_pl {x : UInt8} (h : plB x = true) (l : List UInt8) : rpartF (x :: l) = (rpartF l).map (fun p => (x :: p.1, p.2)) := by
  match l with
  | [] => simp [rpartF, h]
  | [y] => simp [rpartF, h]
  | a :: b :: r => rw [rpartF, if_pos h]
theorem rpartF_esc (a b : UInt8) (r : List UInt8) : rpartF (37 :: a :: b :: r) = (escV a b).bind fun c => (rpartF r).map (fun p => (c :: p.1, p.2)) := by
  rw [rpartF, if_neg (by rw [pl37]; exact Bool.false_ne_true), if_pos rfl]
theorem rpartF_stop {x : UInt8} (h : stopB x) (l : List UInt8) : rpartF (x :: l) = some ([], x :: l) := by
  obtain ⟨h1, h2⟩ := h
  match l with
  | [] => simp [rpartF, h1, h2]
  | [y] => simp [rpartF, h1, h2]
  | a :: b :: r => simp [rpartF, h1, h2]
theorem rpartF_short {l : List UInt8} (h : l.length < 2) : rpartF (37 :: l) = none := by
  match l, h with
  | [], _ => rfl
  | [y], _ => rfl
theorem rpartF_end {l : List UInt8} (h : endL l) : rpartF l = some ([], l) := by
  match l, h with
  | [], _ => rfl
  | x :: t, h => exact rpartF_stop (h x t rfl) t
theorem byte_kind (x : UInt8) : plB x = true ∨ x = 37 ∨ stopB x := by
  by_cases h : x = 37
  · exact .inr (.inl h)
  · cases hp : plB x
    · exact .inr (.inr ⟨hp, h⟩)
    · exact .inl rfl

/-- What may stand in a part. -/
def inPart (x : UInt8) : Prop := plB x = true ∨ x = 37 ∨ 0 ≤ hx8 x
theorem esc_some {a b c : UInt8} (h : escV a b = some c) : 0 ≤ hx8 a ∧ 0 ≤ hx8 b ∧ hx8 a + hx8 b ≠ 0 ∧ c = UInt8.ofNat (hx8 a * 16 + hx8 b).toNat := by
  unfold escV at h
  split at h
  · cases h
  · rename_i hn
    refine ⟨by omega, by omega, by omega, (Option.some.inj h).symm⟩
theorem hx_le (x : UInt8) : hx8 x ≤ 15 := by
  unfold hx8 hxI
  split
  · omega
  · split
    · omega
    · split <;> omega
theorem hx_ge (x : UInt8) : -1 ≤ hx8 x := by
  unfold hx8 hxI
  split
  · omega
  · split
    · omega
    · split <;> omega
theorem esc_ne {a b c : UInt8} (h : escV a b = some c) : c ≠ 0 := by
  obtain ⟨h1, h2, h3, rfl⟩ := esc_some h
  have := hx_le a
  have := hx_le b
  intro e
  have := congrArg UInt8.toNat e
  rw [UInt8.toNat_ofNat_of_lt' (show _ < 256 by omega)] at this
  simp at this
  omega
theorem pl_ne {x : UInt8} (h : plB x = true) : x ≠ 0 := by
  rintro rfl
  revert h
  decide

theorem part_in : ∀ (n : Nat) (l o : List UInt8), l.length ≤ n → partF l = some o → ∀ x ∈ l, inPart x
  | 0, l, o, hn, h, x, hx => by
    obtain rfl : l = [] := List.eq_nil_of_length_eq_zero (by omega)
    cases hx
  | n + 1, [], o, hn, h, x, hx => by cases hx
  | n + 1, y :: l, o, hn, h, x, hx => by
    rcases byte_kind y with hy | rfl | hy
    · rw [partF_pl hy] at h
      obtain ⟨o2, h2, _⟩ := Option.map_eq_some_iff.1 h
      rcases List.mem_cons.1 hx with rfl | hx
      · exact .inl hy
      · exact part_in n l o2 (by simpa using hn) h2 x hx
    · match l, hn, h, hx with
      | [], hn, h, hx => rw [partF_short (by simp)] at h; cases h
      | [a], hn, h, hx => rw [partF_short (by simp)] at h; cases h
      | a :: b :: r, hn, h, hx =>
        rw [partF_esc] at h
        obtain ⟨c, hc, h2⟩ := Option.bind_eq_some_iff.1 h
        obtain ⟨o2, h2, _⟩ := Option.map_eq_some_iff.1 h2
        obtain ⟨e1, e2, _⟩ := esc_some hc
        simp at hx
        rcases hx with rfl | rfl | rfl | hx
        · exact .inr (.inl rfl)
        · exact .inr (.inr e1)
        · exact .inr (.inr e2)
        · exact part_in n r o2 (by simp at hn; omega) h2 x hx
    · rw [partF_stop hy] at h
      cases h
theorem part_zero : ∀ (n : Nat) (l o : List UInt8), l.length ≤ n → partF l = some o → (0 : UInt8) ∉ o ∧ o.length ≤ l.length ∧ (o = [] → l = [])
  | 0, l, o, hn, h => by
    obtain rfl : l = [] := List.eq_nil_of_length_eq_zero (by omega)
    obtain rfl := Option.some.inj h
    simp
  | n + 1, [], o, hn, h => by
    obtain rfl := Option.some.inj h
    simp
  | n + 1, y :: l, o, hn, h => by
    rcases byte_kind y with hy | rfl | hy
    · rw [partF_pl hy] at h
      obtain ⟨o2, h2, rfl⟩ := Option.map_eq_some_iff.1 h
      obtain ⟨i1, i2, i3⟩ := part_zero n l o2 (by simpa using hn) h2
      refine ⟨fun hm => ?_, by simp; omega, fun e => by cases e⟩
      rcases List.mem_cons.1 hm with hm | hm
      · exact pl_ne hy hm.symm
      · exact i1 hm
    · match l, hn, h with
      | [], hn, h => rw [partF_short (by simp)] at h; cases h
      | [a], hn, h => rw [partF_short (by simp)] at h; cases h
      | a :: b :: r, hn, h =>
        rw [partF_esc] at h
        obtain ⟨c, hc, h3⟩ := Option.bind_eq_some_iff.1 h
        obtain ⟨o2, h2, rfl⟩ := Option.map_eq_some_iff.1 h3
        obtain ⟨i1, i2, i3⟩ := part_zero n r o2 (by simp at hn; omega) h2
        refine ⟨fun hm => ?_, by simp; omega, fun e => by cases e⟩
        rcases List.mem_cons.1 hm with hm | hm
        · exact esc_ne hc hm.symm
        · exact i1 hm
    · rw [partF_stop hy] at h
      cases h
theorem part_go : ∀ (n : Nat) (l o : List UInt8), l.length ≤ n → partF l = some o → ∀ rest, endL rest → rpartF (l ++ rest) = some (o, rest)
  | 0, l, o, hn, h, rest, hr => by
    obtain rfl : l = [] := List.eq_nil_of_length_eq_zero (by omega)
    obtain rfl := Option.some.inj h
    exact rpartF_end hr
  | n + 1, [], o, hn, h, rest, hr => by
    obtain rfl := Option.some.inj h
    exact rpartF_end hr
  | n + 1, y :: l, o, hn, h, rest, hr => by
    rcases byte_kind y with hy | rfl | hy
    · rw [partF_pl hy] at h
      obtain ⟨o2, h2, rfl⟩ := Option.map_eq_some_iff.1 h
      rw [List.cons_append, rpartF_pl hy, part_go n l o2 (by simpa using hn) h2 rest hr]
      rfl
    · match l, hn, h with
      | [], hn, h => rw [partF_short (by simp)] at h; cases h
      | [a], hn, h => rw [partF_short (by simp)] at h; cases h
      | a :: b :: r, hn, h =>
        rw [partF_esc] at h
        obtain ⟨c, hc, h3⟩ := Option.bind_eq_some_iff.1 h
        obtain ⟨o2, h2, rfl⟩ := Option.map_eq_some_iff.1 h3
        show rpartF (37 :: a :: b :: (r ++ rest)) = _
        rw [rpartF_esc, hc, part_go n r o2 (by simp at hn; omega) h2 rest hr]
        rfl
    · rw [partF_stop hy] at h
      cases h
theorem rpart_some : ∀ (n : Nat) (l o rest : List UInt8), l.length ≤ n → rpartF l = some (o, rest) → ∃ pre, l = pre ++ rest ∧ partF pre = some o ∧ endL rest
  | 0, l, o, rest, hn, h => by
    obtain rfl : l = [] := List.eq_nil_of_length_eq_zero (by omega)
    obtain ⟨rfl, rfl⟩ := Prod.mk.inj (Option.some.inj h)
    exact ⟨[], rfl, rfl, endL_nil⟩
  | n + 1, [], o, rest, hn, h => by
    obtain ⟨rfl, rfl⟩ := Prod.mk.inj (Option.some.inj h)
    exact ⟨[], rfl, rfl, endL_nil⟩
  | n + 1, y :: l, o, rest, hn, h => by
    rcases byte_kind y with hy | rfl | hy
    · rw [rpartF_pl hy] at h
      obtain ⟨⟨o2, r2⟩, h2, he⟩ := Option.map_eq_some_iff.1 h
      obtain ⟨rfl, rfl⟩ := Prod.mk.inj he
      obtain ⟨pre, rfl, hp, hr⟩ := rpart_some n l o2 r2 (by simpa using hn) h2
      exact ⟨y :: pre, rfl, by rw [partF_pl hy, hp]; rfl, hr⟩
    · match l, hn, h with
      | [], hn, h => rw [rpartF_short (by simp)] at h; cases h
      | [a], hn, h => rw [rpartF_short (by simp)] at h; cases h
      | a :: b :: r, hn, h =>
        rw [rpartF_esc] at h
        obtain ⟨c, hc, h3⟩ := Option.bind_eq_some_iff.1 h
        obtain ⟨⟨o2, r2⟩, h2, he⟩ := Option.map_eq_some_iff.1 h3
        obtain ⟨rfl, rfl⟩ := Prod.mk.inj he
        obtain ⟨pre, rfl, hp, hr⟩ := rpart_some n r o2 r2 (by simp at hn; omega) h2
        exact ⟨37 :: a :: b :: pre, rfl, by rw [partF_esc, hc, hp]; rfl, hr⟩
    · rw [rpartF_stop hy] at h
      obtain ⟨rfl, rfl⟩ := Prod.mk.inj (Option.some.inj h)
      exact ⟨[], rfl, rfl, endL_cons _ hy⟩
theorem part_stop_in : ∀ (n : Nat) (l : List UInt8), l.length ≤ n → ∀ x t, stopB x → partF l ≠ none → partF (l ++ x :: t) = none
  | 0, l, hn, x, t, hx, h => by
    obtain rfl : l = [] := List.eq_nil_of_length_eq_zero (by omega)
    exact partF_stop hx t
  | n + 1, [], hn, x, t, hx, h => partF_stop hx t
  | n + 1, y :: l, hn, x, t, hx, h => by
    rcases byte_kind y with hy | rfl | hy
    · rw [partF_pl hy] at h
      rw [List.cons_append, partF_pl hy, part_stop_in n l (by simpa using hn) x t hx (fun e => h (by rw [e]; rfl))]
      rfl
    · match l, hn, h with
      | [], hn, h => exact absurd (partF_short (by simp)) h
      | [a], hn, h => exact absurd (partF_short (by simp)) h
      | a :: b :: r, hn, h =>
        rw [partF_esc] at h
        show partF (37 :: a :: b :: (r ++ x :: t)) = _
        rw [partF_esc]
        cases hc : escV a b with
        | none => rfl
        | some c =>
          rw [hc] at h
          rw [part_stop_in n r (by simp at hn; omega) x t hx (fun e => h (by rw [e]; rfl))]
          rfl
    · exact absurd (partF_stop hy l) h

/-! ### the marks between parts -/
theorem stop47 : stopB 47 := ⟨by decide, by decide⟩
theorem stop63 : stopB 63 := ⟨by decide, by decide⟩
theorem stop61 : stopB 61 := ⟨by decide, by decide⟩
theorem stop38 : stopB 38 := ⟨by decide, by decide⟩
theorem inPart_ne {x d : UInt8} (hx : inPart x) (hd : ¬ inPart d) : x ≠ d := by
  rintro rfl
  exact hd hx
theorem no47 : ¬ inPart 47 := by unfold inPart; decide
theorem no63 : ¬ inPart 63 := by unfold inPart; decide
theorem no61 : ¬ inPart 61 := by unfold inPart; decide
theorem no38 : ¬ inPart 38 := by unfold inPart; decide
theorem part_not {l o : List UInt8} (h : partF l = some o) {d : UInt8} (hd : ¬ inPart d) : d ∉ l := fun hm => hd (part_in _ l o (Nat.le_refl _) h d hm)

theorem cut1_front {c : UInt8} : ∀ {a : List UInt8}, c ∉ a → ∀ b, cut1 c (a ++ b) = (a ++ (cut1 c b).1, (cut1 c b).2)
  | [], _, b => rfl
  | x :: a, h, b => by
    have hx : x ≠ c := fun e => h (by rw [e]; simp)
    rw [List.cons_append, cut1, if_neg hx, cut1_front (fun hm => h (by simp [hm])) b]
    rfl
theorem cut1_hit (c : UInt8) (b : List UInt8) : cut1 c (c :: b) = ([], b, true) := by rw [cut1, if_pos rfl]
theorem split1_front {c : UInt8} : ∀ {a : List UInt8}, c ∉ a → ∀ b, split1 c (a ++ c :: b) = a :: split1 c b
  | [], _, b => by rw [List.nil_append, split1, if_pos rfl]
  | x :: a, h, b => by
    have hx : x ≠ c := fun e => h (by rw [e]; simp)
    rw [List.cons_append, split1, if_neg hx, split1_front (fun hm => h (by simp [hm])) b]
theorem split1_none {c : UInt8} {a : List UInt8} (h : c ∉ a) : split1 c a = [a] := by
  rw [split1_cut]
  cases hc : (cut1 c a).2.2
  · rfl
  · exact absurd (by rw [cut1_app c a hc]; simp) h

end Go.Proofs.YteldghiejmpknaaDoor
