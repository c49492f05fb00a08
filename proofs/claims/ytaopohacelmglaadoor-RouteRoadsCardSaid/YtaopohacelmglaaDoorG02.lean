/-
  Joined texts of this claim's author (each began as a text of its own; each says itself what it holds).
-/
import Derived.Test.YtaopohacelmglaaDoorG00
import Derived.Test.YtaopohacelmglaaDoorG01
import Derived.Lib.Split
import Derived.Handy
import Derived.OrdersHeld
import Derived.Deep.RegionHeld
import Derived.BigQuiet
import Derived.Great.BuildSlice
import Derived.Lib.ConvBytes
import Derived.Lib.SlBytesConst
import Derived.Laws.Rows
set_option linter.unusedVariables false
set_option linter.unusedSimpArgs false

/-
  Package target: plain bytes.
-/
namespace Go.Proofs.YtaopohacelmglaaDoor.Tg
open Go.RowKit

def chkP (x : UInt8) : Bool := (decide (0 ≤ Lib.indexByte markL x)) == markL.contains x
theorem chkP_fin : ∀ c : Fin 256, chkP (UInt8.ofNat c.1) = true := by decide +kernel
theorem idx_mark (x : UInt8) : decide (0 ≤ Lib.indexByte markL x) = markL.contains x := by
  have := chkP_fin ⟨x.toNat, x.toNat_lt⟩
  have e : UInt8.ofNat x.toNat = x := by simp
  dsimp only at this
  rw [e] at this
  simpa [chkP] using this
theorem pl_case (x : UInt8) : ((97 ≤ (x.toNat : Int) ∧ (x.toNat : Int) ≤ 122) ∧ plB x = true) ∨ ((65 ≤ (x.toNat : Int) ∧ (x.toNat : Int) ≤ 90) ∧ plB x = true) ∨ ((48 ≤ (x.toNat : Int) ∧ (x.toNat : Int) ≤ 57) ∧ plB x = true) ∨
    ((x.toNat : Int) < 48 ∧ plB x = markL.contains x) ∨ ((57 < (x.toNat : Int) ∧ (x.toNat : Int) < 65) ∧ plB x = markL.contains x) ∨ ((90 < (x.toNat : Int) ∧ (x.toNat : Int) < 97) ∧ plB x = markL.contains x) ∨ (122 < (x.toNat : Int) ∧ plB x = markL.contains x) := by
  unfold plB
  have h : (97 ≤ x.toNat ∧ x.toNat ≤ 122) ∨ (65 ≤ x.toNat ∧ x.toNat ≤ 90) ∨ (48 ≤ x.toNat ∧ x.toNat ≤ 57) ∨ x.toNat < 48 ∨ (57 < x.toNat ∧ x.toNat < 65) ∨ (90 < x.toNat ∧ x.toNat < 97) ∨ 122 < x.toNat := by omega
  generalize markL.contains x = M
  rcases h with h | h | h | h | h | h | h
  · exact .inl ⟨by omega, by simp; omega⟩
  · exact .inr (.inl ⟨by omega, by simp; omega⟩)
  · exact .inr (.inr (.inl ⟨by omega, by simp; omega⟩))
  · exact .inr (.inr (.inr (.inl ⟨by omega, by cases M <;> simp <;> omega⟩)))
  · exact .inr (.inr (.inr (.inr (.inl ⟨by omega, by cases M <;> simp <;> omega⟩))))
  · exact .inr (.inr (.inr (.inr (.inr (.inl ⟨by omega, by cases M <;> simp <;> omega⟩)))))
  · exact .inr (.inr (.inr (.inr (.inr (.inr ⟨by omega, by cases M <;> simp <;> omega⟩)))))

set_option maxHeartbeats 4000000 in
theorem plain_any (x : UInt8) (w : World) : Calls Tryd.prog 73 #[.int .u8 (x.toNat : Int)] w fun e w' => e = .returned (.bool (plB x)) ∧ w = w' := by
  have hib : ∀ W, Calls Tryd.prog 85 #[.string ⟨#[45, 46, 95, 126]⟩, .int .u8 (x.toNat : Int)] W fun e w' => e = .returned (.int .i64 (Lib.indexByte markL x)) ∧ w' = W := fun W => by
    have := Tryd.strings_IndexByte ⟨#[45, 46, 95, 126]⟩ (x.toNat : Int) W
    have e : ((x.toNat : Int).toNat).toUInt8 = x := by simp
    rw [e] at this
    exact this
  have HIB := Lib.hid hib
  obtain ⟨I, hI⟩ : ∃ I, Lib.indexByte markL x = I := ⟨_, rfl⟩
  have hm := idx_mark x
  rw [hI] at HIB hm
  clear hib hI
  rcases pl_case x with ⟨⟨c1, c2⟩, hp⟩ | ⟨⟨c1, c2⟩, hp⟩ | ⟨⟨c1, c2⟩, hp⟩ | ⟨c1, hp⟩ | ⟨⟨c1, c2⟩, hp⟩ | ⟨⟨c1, c2⟩, hp⟩ | ⟨c1, hp⟩
  iterate 3
    · have HP := Lib.hid hp
      clear hp hm
      go_enter Tryd.func73, Tryd.ntmps73
      go_wp2_with fail
      go_ret
      rw [HP.out]
      exact ⟨rfl, rfl⟩
  all_goals
    have HP : Hid (plB x = decide (0 ≤ I)) := by
      show _ = _
      rw [hp, hm]
    clear hp hm
    try have d57 : decide ((x.toNat : Int) ≤ 57) = false := decide_eq_false (by omega)
    try have d90 : decide ((x.toNat : Int) ≤ 90) = false := decide_eq_false (by omega)
    try have d122 : decide ((x.toNat : Int) ≤ 122) = false := decide_eq_false (by omega)
    go_enter Tryd.func73, Tryd.ntmps73
    go_wp2_with fail
    refine (HIB.out _).mono ?_
    rintro e w2 ⟨rfl, rfl⟩
    go_wp2_with fail
    go_ret
    rw [HP.out]
    exact ⟨rfl, rfl⟩

end Go.Proofs.YtaopohacelmglaaDoor.Tg

/-
  Strings that are lists of bytes: cuts, bytes, lengths.
-/
namespace Go.Proofs.YtaopohacelmglaaDoor
open Go.RowKit

theorem size_mk (l : List UInt8) : (⟨l.toArray⟩ : ByteArray).size = l.length := by simp [ByteArray.size]
theorem run_str_l {P : Program} {t : TypeId} (ht : P.underlying t = some .string) (l : List UInt8) (k : Nat) (hk : k ≤ l.length) {kl : IntKind} (W : World) :
    (Instr.sliceAt t (.string ⟨l.toArray⟩) (some (.int kl (k : Int))) none none).run P W = .ok (.string ⟨(l.drop k).toArray⟩) W := by
  have hs := size_mk l
  rw [run_sliceAt_string (h := ht), run_slice_string_l (ht := ht) (h0 := by omega) (h1 := by rw [hs]; omega)]
  congr 2
  apply ByteArray.ext
  apply Array.ext'
  simp [ByteArray.data_extract, hs]
  exact List.take_of_length_le (by rw [List.length_drop]; omega)
theorem run_str_lh {P : Program} {t : TypeId} (ht : P.underlying t = some .string) (l : List UInt8) (i j : Nat) (hij : i ≤ j) (hj : j ≤ l.length) {kl kh : IntKind} {I J : Int} (hI : I = i) (hJ : J = j) (W : World) :
    (Instr.sliceAt t (.string ⟨l.toArray⟩) (some (.int kl I)) (some (.int kh J)) none).run P W = .ok (.string ⟨((l.drop i).take (j - i)).toArray⟩) W := by
  subst hI hJ
  have hs := size_mk l
  have hr : (Instr.slice t (.string ⟨l.toArray⟩) (some (.int kl (i : Int))) (some (.int kh (j : Int))) none).run P W = .ok (.string ((⟨l.toArray⟩ : ByteArray).extract i j)) W := by
    simp [Instr.slice, run_underlying ht, Instr.sliceBounds, run_sliceBound, sliced, hij, hs, hj, (by omega : (0 : Int) ≤ i), (by omega : (0 : Int) ≤ j)]
  rw [run_sliceAt_string (h := ht), hr]
  congr 2
  apply ByteArray.ext
  apply Array.ext'
  simp [ByteArray.data_extract, hs]
  try rw [List.drop_take]
theorem run_str_at {P : Program} {t : TypeId} (ht : P.underlying t = some .string) (l : List UInt8) (k : Nat) (x : UInt8) (hk : l[k]? = some x) {kl : IntKind} (W : World) :
    (Instr.index t (.string ⟨l.toArray⟩) (.int kl (k : Int))).run P W = .ok (.int .u8 (x.toNat : Int)) W := by
  obtain ⟨hl, hx⟩ := List.getElem?_eq_some_iff.1 hk
  have hs := size_mk l
  rw [run_index_string (P := P) W t _ kl (k : Int) ht, dif_pos ⟨by omega, by rw [hs]; omega⟩]
  have e : (k : Int).toNat = k := Int.toNat_natCast k
  simp only [e]
  congr 3
  rw [← hx]
  simp [ByteArray.getElem_eq_getElem_data]

end Go.Proofs.YtaopohacelmglaaDoor

/-
  Lists of bytes cut at one byte: at the first, at all.
-/
namespace Go.Proofs.YtaopohacelmglaaDoor
open Go.RowKit

/-- Ahead of the first c, behind it, whether it is there. -/
def cut1 (c : UInt8) : List UInt8 → List UInt8 × List UInt8 × Bool
  | [] => ([], [], false)
  | x :: l => if x = c then ([], l, true) else (x :: (cut1 c l).1, (cut1 c l).2)
/-- The pieces between all c. -/
def split1 (c : UInt8) : List UInt8 → List (List UInt8)
  | [] => [[]]
  | x :: l => if x = c then [] :: split1 c l else match split1 c l with
    | p :: ps => (x :: p) :: ps
    | [] => [[x]]
theorem split1_ne (c : UInt8) : ∀ l, split1 c l ≠ []
  | [] => by simp [split1]
  | x :: l => by
    rw [split1]
    split
    · simp
    · split <;> simp
theorem cut1_app (c : UInt8) : ∀ l, (cut1 c l).2.2 = true → l = (cut1 c l).1 ++ c :: (cut1 c l).2.1
  | [], h => by simp [cut1] at h
  | x :: l, h => by
    rw [cut1] at h ⊢
    split
    · rename_i hx
      rw [hx]
      rfl
    · rename_i hx
      rw [if_neg hx] at h
      rw [List.cons_append, ← cut1_app c l h]
theorem cut1_none (c : UInt8) : ∀ l, (cut1 c l).2.2 = false → (cut1 c l).1 = l ∧ (cut1 c l).2.1 = [] ∧ c ∉ l
  | [], _ => ⟨rfl, rfl, by simp⟩
  | x :: l, h => by
    rw [cut1] at h ⊢
    split
    · rename_i hx
      rw [if_pos hx] at h
      cases h
    · rename_i hx
      rw [if_neg hx] at h
      obtain ⟨h1, h2, h3⟩ := cut1_none c l h
      exact ⟨by rw [h1], h2, by simp [h3, Ne.symm hx]⟩
theorem cut1_mem (c : UInt8) : ∀ l, c ∉ (cut1 c l).1
  | [] => by simp [cut1]
  | x :: l => by
    rw [cut1]
    split
    · simp
    · rename_i hx
      have := cut1_mem c l
      simp [this, Ne.symm hx]
theorem cut1_le (c : UInt8) (l : List UInt8) : (cut1 c l).1.length ≤ l.length ∧ (cut1 c l).2.1.length ≤ l.length := by
  cases h : (cut1 c l).2.2
  · obtain ⟨h1, h2, _⟩ := cut1_none c l h
    rw [h1, h2]
    simp
  · have := congrArg List.length (cut1_app c l h)
    rw [List.length_append, List.length_cons] at this
    omega

theorem index_nil1 (c : UInt8) : Lib.index [] [c] = -1 := rfl
theorem index_cons1 (c x : UInt8) (l : List UInt8) : Lib.index (x :: l) [c] = if x = c then 0 else if Lib.index l [c] = -1 then -1 else Lib.index l [c] + 1 := by
  by_cases h : x = c
  · subst h
    rw [if_pos rfl]
    simp [Lib.index]
  · rw [if_neg h]
    have : (x == c) = false := by simpa using h
    have h2 : (c == x) = false := by simpa using Ne.symm h
    simp [Lib.index, this, h2, h, Ne.symm h]
theorem cut_one (c : UInt8) : ∀ l, Lib.cut l [c] = cut1 c l
  | [] => by
    unfold Lib.cut
    rw [index_nil1]
    rfl
  | x :: l => by
    have ih := cut_one c l
    have hge := Lib.index_ge l [c]
    unfold Lib.cut at ih ⊢
    rw [index_cons1, cut1]
    by_cases hx : x = c
    · rw [if_pos hx, if_pos hx]
      simp
    · rw [if_neg hx, if_neg hx]
      by_cases hi : Lib.index l [c] = -1
      · rw [if_pos hi, if_neg (by omega)]
        rw [if_neg (by omega)] at ih
        rw [← ih]
      · rw [if_neg hi, if_pos (by omega)]
        rw [if_pos (by omega)] at ih
        rw [← ih]
        obtain ⟨k, hk⟩ : ∃ k : Nat, Lib.index l [c] = k := ⟨(Lib.index l [c]).toNat, by omega⟩
        rw [hk]
        have e : ((k : Int) + 1).toNat = k + 1 := by omega
        rw [e]
        simp [Nat.add_right_comm]
theorem split1_cut (c : UInt8) : ∀ l, split1 c l = if (cut1 c l).2.2 then (cut1 c l).1 :: split1 c (cut1 c l).2.1 else [l]
  | [] => rfl
  | x :: l => by
    rw [split1, cut1]
    by_cases hx : x = c
    · rw [if_pos hx, if_pos hx]
      rfl
    · rw [if_neg hx, if_neg hx]
      dsimp only
      have ih := split1_cut c l
      split at ih
      · rename_i h
        rw [ih, if_pos h]
      · rename_i h
        rw [ih, if_neg h]
/-- What the library's Split makes. -/
theorem splitK_one (c : UInt8) : ∀ (k : Nat) (l : List UInt8), Lib.count l [c] = k → Lib.splitK [c] 0 k l = split1 c l
  | 0, l, h => by
    rw [split1_cut]
    have hm : Lib.index l [c] = -1 := by
      by_cases hi : Lib.index l [c] = -1
      · exact hi
      · have hge := Lib.index_ge l [c]
        obtain ⟨i, hi2⟩ : ∃ i : Nat, Lib.index l [c] = i := ⟨(Lib.index l [c]).toNat, by omega⟩
        have := Lib.count_hit (by simp) hi2
        omega
    have hc := cut_one c l
    unfold Lib.cut at hc
    rw [if_neg (by omega)] at hc
    rw [← hc]
    rfl
  | k + 1, l, h => by
    have hge := Lib.index_ge l [c]
    have hne : Lib.index l [c] ≠ -1 := by
      intro hm
      rw [Lib.count_miss hm] at h
      omega
    obtain ⟨i, hi⟩ : ∃ i : Nat, Lib.index l [c] = i := ⟨(Lib.index l [c]).toNat, by omega⟩
    have hc := cut_one c l
    unfold Lib.cut at hc
    rw [if_pos (by omega), hi] at hc
    have h2 := Lib.count_hit (s := l) (sub := [c]) (by simp) hi
    rw [split1_cut, ← hc, Lib.splitK, if_neg (by rw [hi]; simp), hi]
    simp only [Int.toNat_natCast, Nat.add_zero, List.length_cons, List.length_nil, Nat.zero_add, if_true] at h2 ⊢
    rw [splitK_one c k _ (by omega)]

end Go.Proofs.YtaopohacelmglaaDoor

/-
  Plain: what a part of a target says, forwards and by the document's way.
-/
namespace Go.Proofs.YtaopohacelmglaaDoor.Tg
open Go.RowKit

def hx8 (x : UInt8) : Int := hxI (x.toNat : Int)
/-- The byte that two digits say: none where one is no digit, or the byte is 0. -/
def escV (a b : UInt8) : Option UInt8 := if hx8 a < 0 ∨ hx8 b < 0 ∨ hx8 a + hx8 b = 0 then none else some (UInt8.ofNat (hx8 a * 16 + hx8 b).toNat)
def partF : List UInt8 → Option (List UInt8)
  | [] => some []
  | [x] => if plB x then some [x] else none
  | [x, y] => if plB x then (partF [y]).map (x :: ·) else none
  | x :: a :: b :: r => if plB x then (partF (a :: b :: r)).map (x :: ·) else if x = 37 then (escV a b).bind fun c => (partF r).map (c :: ·) else none
def rpartF : List UInt8 → Option (List UInt8 × List UInt8)
  | [] => some ([], [])
  | [x] => if plB x then some ([x], []) else if x = 37 then none else some ([], [x])
  | [x, y] => if plB x then (rpartF [y]).map (fun p => (x :: p.1, p.2)) else if x = 37 then none else some ([], [x, y])
  | x :: a :: b :: r => if plB x then (rpartF (a :: b :: r)).map (fun p => (x :: p.1, p.2)) else if x = 37 then (escV a b).bind fun c => (rpartF r).map (fun p => (c :: p.1, p.2)) else some ([], x :: a :: b :: r)
def stopB (x : UInt8) : Prop := plB x = false ∧ x ≠ 37
def endL (l : List UInt8) : Prop := ∀ x t, l = x :: t → stopB x
theorem endL_nil : endL [] := fun x t h => by cases h
theorem endL_cons {x : UInt8} (t : List UInt8) (h : stopB x) : endL (x :: t) := fun y t' e => by cases e; exact h
theorem pl37 : plB 37 = false := by decide

theorem partF_pl {x : UInt8} (h : plB x = true) (l : List UInt8) : partF (x :: l) = (partF l).map (x :: ·) := by
  match l with
  | [] => simp [partF, h]
  | [y] => simp [partF, h]
  | a :: b :: r => rw [partF, if_pos h]
theorem partF_esc (a b : UInt8) (r : List UInt8) : partF (37 :: a :: b :: r) = (escV a b).bind fun c => (partF r).map (c :: ·) := by
  rw [partF, if_neg (by rw [pl37]; exact Bool.false_ne_true), if_pos rfl]
theorem partF_stop {x : UInt8} (h : stopB x) (l : List UInt8) : partF (x :: l) = none := by
  obtain ⟨h1, h2⟩ := h
  match l with
  | [] => simp [partF, h1]
  | [y] => simp [partF, h1]
  | a :: b :: r => simp [partF, h1, h2]
theorem partF_short {l : List UInt8} (h : l.length < 2) : partF (37 :: l) = none := by
  match l, h with
  | [], _ => rfl
  | [y], _ => rfl
theorem rpartF_pl {x : UInt8} (h : plB x = true) (l : List UInt8) : rpartF (x :: l) = (rpartF l).map (fun p => (x :: p.1, p.2)) := by
  match l with
  | [] => simp [rpartF, h]
  | [y] => simp [rpartF, h]
  | a :: b :: r => rw [rpartF, if_pos h]
theorem rpartF_esc (a b : UInt8) (r : List UInt8) : rpartF (37 :: a :: b :: r) = (escV a b).bind fun c => (rpartF r).map (fun p => (c :: p.1, p.2)) := by
  rw [rpartF, if_neg (by rw [pl37]; exact Bool.false_ne_true), if_pos rfl]
theorem rpartF_stop {x : UInt8} (h : stopB x) (l : List UInt8) : rpartF (x :: l) = some ([], x :: l) := by
  obtain ⟨h1, h2⟩ := h
  match l with
  | [] => simp [rpartF, h1, h2]
  | [y] => simp [rpartF, h1, h2]
  | a :: b :: r => simp [rpartF, h1, h2]
theorem rpartF_short {l : List UInt8} (h : l.length < 2) : rpartF (37 :: l) = none := by
  match l, h with
  | [], _ => rfl
  | [y], _ => rfl
theorem rpartF_end {l : List UInt8} (h : endL l) : rpartF l = some ([], l) := by
  match l, h with
  | [], _ => rfl
  | x :: t, h => exact rpartF_stop (h x t rfl) t
theorem byte_kind (x : UInt8) : plB x = true ∨ x = 37 ∨ stopB x := by
  by_cases h : x = 37
  · exact .inr (.inl h)
  · cases hp : plB x
    · exact .inr (.inr ⟨hp, h⟩)
    · exact .inl rfl

/-- What may stand in a part. -/
def inPart (x : UInt8) : Prop := plB x = true ∨ x = 37 ∨ 0 ≤ hx8 x
theorem esc_some {a b c : UInt8} (h : escV a b = some c) : 0 ≤ hx8 a ∧ 0 ≤ hx8 b ∧ hx8 a + hx8 b ≠ 0 ∧ c = UInt8.ofNat (hx8 a * 16 + hx8 b).toNat := by
  unfold escV at h
  split at h
  · cases h
  · rename_i hn
    refine ⟨by omega, by omega, by omega, (Option.some.inj h).symm⟩
theorem hx_le (x : UInt8) : hx8 x ≤ 15 := by
  unfold hx8 hxI
  split
  · omega
  · split
    · omega
    · split <;> omega
theorem hx_ge (x : UInt8) : -1 ≤ hx8 x := by
  unfold hx8 hxI
  split
  · omega
  · split
    · omega
    · split <;> omega
theorem esc_ne {a b c : UInt8} (h : escV a b = some c) : c ≠ 0 := by
  obtain ⟨h1, h2, h3, rfl⟩ := esc_some h
  have := hx_le a
  have := hx_le b
  intro e
  have := congrArg UInt8.toNat e
  rw [UInt8.toNat_ofNat_of_lt' (show _ < 256 by omega)] at this
  simp at this
  omega
theorem pl_ne {x : UInt8} (h : plB x = true) : x ≠ 0 := by
  rintro rfl
  revert h
  decide

theorem part_in : ∀ (n : Nat) (l o : List UInt8), l.length ≤ n → partF l = some o → ∀ x ∈ l, inPart x
  | 0, l, o, hn, h, x, hx => by
    obtain rfl : l = [] := List.eq_nil_of_length_eq_zero (by omega)
    cases hx
  | n + 1, [], o, hn, h, x, hx => by cases hx
  | n + 1, y :: l, o, hn, h, x, hx => by
    rcases byte_kind y with hy | rfl | hy
    · rw [partF_pl hy] at h
      obtain ⟨o2, h2, _⟩ := Option.map_eq_some_iff.1 h
      rcases List.mem_cons.1 hx with rfl | hx
      · exact .inl hy
      · exact part_in n l o2 (by simpa using hn) h2 x hx
    · match l, hn, h, hx with
      | [], hn, h, hx => rw [partF_short (by simp)] at h; cases h
      | [a], hn, h, hx => rw [partF_short (by simp)] at h; cases h
      | a :: b :: r, hn, h, hx =>
        rw [partF_esc] at h
        obtain ⟨c, hc, h2⟩ := Option.bind_eq_some_iff.1 h
        obtain ⟨o2, h2, _⟩ := Option.map_eq_some_iff.1 h2
        obtain ⟨e1, e2, _⟩ := esc_some hc
        simp at hx
        rcases hx with rfl | rfl | rfl | hx
        · exact .inr (.inl rfl)
        · exact .inr (.inr e1)
        · exact .inr (.inr e2)
        · exact part_in n r o2 (by simp at hn; omega) h2 x hx
    · rw [partF_stop hy] at h
      cases h
theorem part_zero : ∀ (n : Nat) (l o : List UInt8), l.length ≤ n → partF l = some o → (0 : UInt8) ∉ o ∧ o.length ≤ l.length ∧ (o = [] → l = [])
  | 0, l, o, hn, h => by
    obtain rfl : l = [] := List.eq_nil_of_length_eq_zero (by omega)
    obtain rfl := Option.some.inj h
    simp
  | n + 1, [], o, hn, h => by
    obtain rfl := Option.some.inj h
    simp
  | n + 1, y :: l, o, hn, h => by
    rcases byte_kind y with hy | rfl | hy
    · rw [partF_pl hy] at h
      obtain ⟨o2, h2, rfl⟩ := Option.map_eq_some_iff.1 h
      obtain ⟨i1, i2, i3⟩ := part_zero n l o2 (by simpa using hn) h2
      refine ⟨fun hm => ?_, by simp; omega, fun e => by cases e⟩
      rcases List.mem_cons.1 hm with hm | hm
      · exact pl_ne hy hm.symm
      · exact i1 hm
    · match l, hn, h with
      | [], hn, h => rw [partF_short (by simp)] at h; cases h
      | [a], hn, h => rw [partF_short (by simp)] at h; cases h
      | a :: b :: r, hn, h =>
        rw [partF_esc] at h
        obtain ⟨c, hc, h3⟩ := Option.bind_eq_some_iff.1 h
        obtain ⟨o2, h2, rfl⟩ := Option.map_eq_some_iff.1 h3
        obtain ⟨i1, i2, i3⟩ := part_zero n r o2 (by simp at hn; omega) h2
        refine ⟨fun hm => ?_, by simp; omega, fun e => by cases e⟩
        rcases List.mem_cons.1 hm with hm | hm
        · exact esc_ne hc hm.symm
        · exact i1 hm
    · rw [partF_stop hy] at h
      cases h
theorem part_go : ∀ (n : Nat) (l o : List UInt8), l.length ≤ n → partF l = some o → ∀ rest, endL rest → rpartF (l ++ rest) = some (o, rest)
  | 0, l, o, hn, h, rest, hr => by
    obtain rfl : l = [] := List.eq_nil_of_length_eq_zero (by omega)
    obtain rfl := Option.some.inj h
    exact rpartF_end hr
  | n + 1, [], o, hn, h, rest, hr => by
    obtain rfl := Option.some.inj h
    exact rpartF_end hr
  | n + 1, y :: l, o, hn, h, rest, hr => by
    rcases byte_kind y with hy | rfl | hy
    · rw [partF_pl hy] at h
      obtain ⟨o2, h2, rfl⟩ := Option.map_eq_some_iff.1 h
      rw [List.cons_append, rpartF_pl hy, part_go n l o2 (by simpa using hn) h2 rest hr]
      rfl
    · match l, hn, h with
      | [], hn, h => rw [partF_short (by simp)] at h; cases h
      | [a], hn, h => rw [partF_short (by simp)] at h; cases h
      | a :: b :: r, hn, h =>
        rw [partF_esc] at h
        obtain ⟨c, hc, h3⟩ := Option.bind_eq_some_iff.1 h
        obtain ⟨o2, h2, rfl⟩ := Option.map_eq_some_iff.1 h3
        show rpartF (37 :: a :: b :: (r ++ rest)) = _
        rw [rpartF_esc, hc, part_go n r o2 (by simp at hn; omega) h2 rest hr]
        rfl
    · rw [partF_stop hy] at h
      cases h
theorem rpart_some : ∀ (n : Nat) (l o rest : List UInt8), l.length ≤ n → rpartF l = some (o, rest) → ∃ pre, l = pre ++ rest ∧ partF pre = some o ∧ endL rest
  | 0, l, o, rest, hn, h => by
    obtain rfl : l = [] := List.eq_nil_of_length_eq_zero (by omega)
    obtain ⟨rfl, rfl⟩ := Prod.mk.inj (Option.some.inj h)
    exact ⟨[], rfl, rfl, endL_nil⟩
  | n + 1, [], o, rest, hn, h => by
    obtain ⟨rfl, rfl⟩ := Prod.mk.inj (Option.some.inj h)
    exact ⟨[], rfl, rfl, endL_nil⟩
  | n + 1, y :: l, o, rest, hn, h => by
    rcases byte_kind y with hy | rfl | hy
    · rw [rpartF_pl hy] at h
      obtain ⟨⟨o2, r2⟩, h2, he⟩ := Option.map_eq_some_iff.1 h
      obtain ⟨rfl, rfl⟩ := Prod.mk.inj he
      obtain ⟨pre, rfl, hp, hr⟩ := rpart_some n l o2 r2 (by simpa using hn) h2
      exact ⟨y :: pre, rfl, by rw [partF_pl hy, hp]; rfl, hr⟩
    · match l, hn, h with
      | [], hn, h => rw [rpartF_short (by simp)] at h; cases h
      | [a], hn, h => rw [rpartF_short (by simp)] at h; cases h
      | a :: b :: r, hn, h =>
        rw [rpartF_esc] at h
        obtain ⟨c, hc, h3⟩ := Option.bind_eq_some_iff.1 h
        obtain ⟨⟨o2, r2⟩, h2, he⟩ := Option.map_eq_some_iff.1 h3
        obtain ⟨rfl, rfl⟩ := Prod.mk.inj he
        obtain ⟨pre, rfl, hp, hr⟩ := rpart_some n r o2 r2 (by simp at hn; omega) h2
        exact ⟨37 :: a :: b :: pre, rfl, by rw [partF_esc, hc, hp]; rfl, hr⟩
    · rw [rpartF_stop hy] at h
      obtain ⟨rfl, rfl⟩ := Prod.mk.inj (Option.some.inj h)
      exact ⟨[], rfl, rfl, endL_cons _ hy⟩
theorem part_stop_in : ∀ (n : Nat) (l : List UInt8), l.length ≤ n → ∀ x t, stopB x → partF l ≠ none → partF (l ++ x :: t) = none
  | 0, l, hn, x, t, hx, h => by
    obtain rfl : l = [] := List.eq_nil_of_length_eq_zero (by omega)
    exact partF_stop hx t
  | n + 1, [], hn, x, t, hx, h => partF_stop hx t
  | n + 1, y :: l, hn, x, t, hx, h => by
    rcases byte_kind y with hy | rfl | hy
    · rw [partF_pl hy] at h
      rw [List.cons_append, partF_pl hy, part_stop_in n l (by simpa using hn) x t hx (fun e => h (by rw [e]; rfl))]
      rfl
    · match l, hn, h with
      | [], hn, h => exact absurd (partF_short (by simp)) h
      | [a], hn, h => exact absurd (partF_short (by simp)) h
      | a :: b :: r, hn, h =>
        rw [partF_esc] at h
        show partF (37 :: a :: b :: (r ++ x :: t)) = _
        rw [partF_esc]
        cases hc : escV a b with
        | none => rfl
        | some c =>
          rw [hc] at h
          rw [part_stop_in n r (by simp at hn; omega) x t hx (fun e => h (by rw [e]; rfl))]
          rfl
    · exact absurd (partF_stop hy l) h

/-! ### the marks between parts -/
theorem stop47 : stopB 47 := ⟨by decide, by decide⟩
theorem stop63 : stopB 63 := ⟨by decide, by decide⟩
theorem stop61 : stopB 61 := ⟨by decide, by decide⟩
theorem stop38 : stopB 38 := ⟨by decide, by decide⟩
theorem inPart_ne {x d : UInt8} (hx : inPart x) (hd : ¬ inPart d) : x ≠ d := by
  rintro rfl
  exact hd hx
theorem no47 : ¬ inPart 47 := by unfold inPart; decide
theorem no63 : ¬ inPart 63 := by unfold inPart; decide
theorem no61 : ¬ inPart 61 := by unfold inPart; decide
theorem no38 : ¬ inPart 38 := by unfold inPart; decide
theorem part_not {l o : List UInt8} (h : partF l = some o) {d : UInt8} (hd : ¬ inPart d) : d ∉ l := fun hm => hd (part_in _ l o (Nat.le_refl _) h d hm)

theorem cut1_front {c : UInt8} : ∀ {a : List UInt8}, c ∉ a → ∀ b, cut1 c (a ++ b) = (a ++ (cut1 c b).1, (cut1 c b).2)
  | [], _, b => rfl
  | x :: a, h, b => by
    have hx : x ≠ c := fun e => h (by rw [e]; simp)
    rw [List.cons_append, cut1, if_neg hx, cut1_front (fun hm => h (by simp [hm])) b]
    rfl
theorem cut1_hit (c : UInt8) (b : List UInt8) : cut1 c (c :: b) = ([], b, true) := by rw [cut1, if_pos rfl]
theorem split1_front {c : UInt8} : ∀ {a : List UInt8}, c ∉ a → ∀ b, split1 c (a ++ c :: b) = a :: split1 c b
  | [], _, b => by rw [List.nil_append, split1, if_pos rfl]
  | x :: a, h, b => by
    have hx : x ≠ c := fun e => h (by rw [e]; simp)
    rw [List.cons_append, split1, if_neg hx, split1_front (fun hm => h (by simp [hm])) b]
theorem split1_none {c : UInt8} {a : List UInt8} (h : c ∉ a) : split1 c a = [a] := by
  rw [split1_cut]
  cases hc : (cut1 c a).2.2
  · rfl
  · exact absurd (by rw [cut1_app c a hc]; simp) h

end Go.Proofs.YtaopohacelmglaaDoor.Tg

/-
  The document's answer to target: half a byte's digit, plain bytes.
-/
namespace Go.Proofs.YtaopohacelmglaaDoor.Tg
open Go.RowKit

theorem rhalf_any (x : Int) (h0 : 0 ≤ x) (h1 : x ≤ 255) (w : World) : Calls Tryd.prog 67 #[.int .u8 x] w fun e w' => e = .returned (.int .i64 (hxI x)) ∧ w = w' := by
  rcases hx_case x with ⟨c1, c2⟩ | ⟨c1, c2⟩ | ⟨c1, c2⟩ | c1 | ⟨c1, c2⟩ | ⟨c1, c2⟩ | c1
  · have HE : Hid (hxI x = x - 48) := if_pos ⟨c1, c2⟩
    go_enter Tryd.func67, Tryd.ntmps67
    go_wp2_with fail
    go_ret
    rw [HE.out]
    exact ⟨by first | rfl | (congr 2; omega), rfl⟩
  · have HE : Hid (hxI x = x - 97 + 10) := (if_neg (by omega)).trans (if_pos ⟨c1, c2⟩)
    go_enter Tryd.func67, Tryd.ntmps67
    go_wp2_with fail
    go_ret
    rw [HE.out]
    exact ⟨by first | rfl | (congr 2; omega), rfl⟩
  · have HE : Hid (hxI x = x - 65 + 10) := (if_neg (by omega)).trans ((if_neg (by omega)).trans (if_pos ⟨c1, c2⟩))
    go_enter Tryd.func67, Tryd.ntmps67
    go_wp2_with fail
    go_ret
    rw [HE.out]
    exact ⟨by first | rfl | (congr 2; omega), rfl⟩
  all_goals
    have HE : Hid (hxI x = -1) := (if_neg (by omega)).trans ((if_neg (by omega)).trans (if_neg (by omega)))
    go_enter Tryd.func67, Tryd.ntmps67
    go_wp2_with fail
    all_goals first
      | (go_ret; rw [HE.out]; exact ⟨rfl, rfl⟩)
      | (exfalso; simp at *; omega)

theorem mark_no {x : UInt8} (h1 : x ≠ 45) (h2 : x ≠ 46) (h3 : x ≠ 95) (h4 : x ≠ 126) : markL.contains x = false := by
  simp [markL, h1, h2, h3, h4]
theorem ne_int {x : UInt8} {c : Nat} (hc : c < 256) (h : x ≠ UInt8.ofNat c) : ((x.toNat : Int) == (c : Int)) = false := by
  simp
  intro e
  refine h (UInt8.toNat_inj.1 ?_)
  rw [UInt8.toNat_ofNat_of_lt' hc]
  omega

set_option maxHeartbeats 4000000 in
theorem rplain_any (x : UInt8) (w : World) : Calls Tryd.prog 66 #[.int .u8 (x.toNat : Int)] w fun e w' => e = .returned (.bool (plB x)) ∧ w = w' := by
  by_cases m1 : x = 45
  · subst m1
    go_enter Tryd.func66, Tryd.ntmps66
    go_wp2_with fail
    go_ret
    exact ⟨rfl, rfl⟩
  by_cases m2 : x = 46
  · subst m2
    go_enter Tryd.func66, Tryd.ntmps66
    go_wp2_with fail
    go_ret
    exact ⟨rfl, rfl⟩
  by_cases m3 : x = 95
  · subst m3
    go_enter Tryd.func66, Tryd.ntmps66
    go_wp2_with fail
    go_ret
    exact ⟨rfl, rfl⟩
  by_cases m4 : x = 126
  · subst m4
    go_enter Tryd.func66, Tryd.ntmps66
    go_wp2_with fail
    go_ret
    exact ⟨rfl, rfl⟩
  have hM := mark_no m1 m2 m3 m4
  have e1 : ((x.toNat : Int) == 45) = false := ne_int (c := 45) (by omega) m1
  have e2 : ((x.toNat : Int) == 46) = false := ne_int (c := 46) (by omega) m2
  have e3 : ((x.toNat : Int) == 95) = false := ne_int (c := 95) (by omega) m3
  have e4 : ((x.toNat : Int) == 126) = false := ne_int (c := 126) (by omega) m4
  have hcs := pl_case x
  rw [hM] at hcs
  clear m1 m2 m3 m4 hM
  rcases hcs with ⟨⟨c1, c2⟩, hp⟩ | ⟨⟨c1, c2⟩, hp⟩ | ⟨⟨c1, c2⟩, hp⟩ | ⟨c1, hp⟩ | ⟨⟨c1, c2⟩, hp⟩ | ⟨⟨c1, c2⟩, hp⟩ | ⟨c1, hp⟩
  all_goals
    have HP := Lib.hid hp
    clear hp
    try have d57 : decide ((x.toNat : Int) ≤ 57) = false := decide_eq_false (by omega)
    try have d90 : decide ((x.toNat : Int) ≤ 90) = false := decide_eq_false (by omega)
    try have d122 : decide ((x.toNat : Int) ≤ 122) = false := decide_eq_false (by omega)
    go_enter Tryd.func66, Tryd.ntmps66
    go_wp2_with fail
    go_ret
    rw [HP.out]
    exact ⟨rfl, rfl⟩

end Go.Proofs.YtaopohacelmglaaDoor.Tg

/-
  Plain functions: what package octet writes and reads, on lists of bytes. No program is named here.
-/
namespace Go.Proofs.YtaopohacelmglaaDoor
open Go.RowKit

/-- v in n bytes, the highest first. -/
def putB (v : Nat) : Nat → List UInt8
  | 0 => []
  | n + 1 => putB (v / 256) n ++ [UInt8.ofNat v]

theorem putB_length (v n : Nat) : (putB v n).length = n := by
  induction n generalizing v with
  | zero => rfl
  | succ n ih => simp [putB, ih]

theorem putB_step (v n j : Nat) (h : j < n) : putB (v / 256 ^ j) (n - j) = putB (v / 256 ^ (j + 1)) (n - (j + 1)) ++ [UInt8.ofNat (v / 256 ^ j)] := by
  obtain ⟨d, rfl⟩ : ∃ d, n = j + 1 + d := ⟨n - (j + 1), by omega⟩
  have e1 : j + 1 + d - j = d + 1 := by omega
  have e2 : j + 1 + d - (j + 1) = d := by omega
  rw [e1, e2, putB, Nat.div_div_eq_div_mul, ← Nat.pow_succ]

theorem putB_cons (v i : Nat) : putB v (i + 1) = UInt8.ofNat (v / 256 ^ i) :: putB v i := by
  induction i generalizing v with
  | zero => simp [putB]
  | succ i ih =>
    have e : v / 256 / 256 ^ i = v / 256 ^ (i + 1) := by rw [Nat.div_div_eq_div_mul, Nat.pow_succ, Nat.mul_comm]
    rw [putB, ih, e, List.cons_append, putB]

/-- The number that bytes are, the highest first. -/
def beN (l : List UInt8) : Nat := l.foldl (fun a x => a * 256 + x.toNat) 0
theorem beN_snoc (l : List UInt8) (x : UInt8) : beN (l ++ [x]) = beN l * 256 + x.toNat := by simp [beN]
theorem foldl_be_lt (l : List UInt8) : ∀ a, l.foldl (fun a x => a * 256 + x.toNat) a < (a + 1) * 256 ^ l.length := by
  induction l with
  | nil => intro a; simp
  | cons x l ih =>
    intro a
    have h1 := ih (a * 256 + x.toNat)
    have h2 := x.toNat_lt
    rw [List.foldl_cons, List.length_cons, Nat.pow_succ, Nat.mul_comm (256 ^ l.length) 256, ← Nat.mul_assoc]
    refine Nat.lt_of_lt_of_le h1 (Nat.mul_le_mul_right _ ?_)
    omega
theorem beN_lt (l : List UInt8) : beN l < 256 ^ l.length := by simpa [beN] using foldl_be_lt l 0
theorem beN_putB (v n : Nat) : beN (putB v n) = v % 256 ^ n := by
  induction n generalizing v with
  | zero => simp [putB, beN, Nat.mod_one]
  | succ n ih =>
    rw [putB, beN_snoc, ih]
    have e : (UInt8.ofNat v).toNat = v % 256 := by simp
    rw [e, Nat.pow_succ, Nat.mul_comm (256 ^ n) 256, Nat.mod_mul]
    omega

/-- v in groups of seven bits, the lowest first. -/
def countB (v : Nat) : List UInt8 := if v < 128 then [UInt8.ofNat v] else UInt8.ofNat (v % 128 + 128) :: countB (v / 128)
termination_by v
decreasing_by omega

/-- The number at the beginning: from place i on, with v already read. -/
def takeC : List UInt8 → Nat → Nat → Nat × Nat × Int
  | [], _, _ => (0, 0, 3)
  | x :: r, i, v =>
    if (i = 9 ∧ 1 < x.toNat) ∨ (x.toNat = 0 ∧ 0 < i) then (0, 0, 4)
    else if x.toNat < 128 then (v + x.toNat * 128 ^ i, i + 1, 0)
    else takeC r (i + 1) (v + (x.toNat - 128) * 128 ^ i)

/-! ### Bits -/
theorem or_join (q x : Int) (hq0 : 0 ≤ q) (hq : q < 72057594037927936) (hx0 : 0 ≤ x) (hx : x ≤ 255) : bits .or .u64 (q * 256) x = q * 256 + x := by
  obtain ⟨Q, rfl⟩ := Int.eq_ofNat_of_zero_le hq0
  obtain ⟨X, rfl⟩ := Int.eq_ofNat_of_zero_le hx0
  have e : (Q : Int) * 256 = ((Q * 256 : Nat) : Int) := by omega
  rw [e, u64_or_nat _ _ (by omega) (by omega), nat_join 8 (Q * 256) X (by omega) (by omega)]
  omega
theorem ofInt_i64 (a : Nat) (ha : a < 9223372036854775808) : (BitVec.ofInt 64 (a : Int)).toNat = a := by
  rw [BitVec.ofInt_natCast, BitVec.toNat_ofNat]; exact Nat.mod_eq_of_lt (by omega)
theorem i64_and_nat (a b : Nat) (ha : a < 9223372036854775808) (hb : b < 9223372036854775808) : bits .and .i64 (a : Int) (b : Int) = ((a &&& b : Nat) : Int) := by
  have hx : a &&& b < 2 ^ 63 := Nat.and_lt_two_pow _ (by omega)
  show IntKind.i64.wrap ((BitVec.ofInt 64 (a : Int) &&& BitVec.ofInt 64 (b : Int)).toNat : Int) = _
  rw [BitVec.toNat_and, ofInt_i64 a ha, ofInt_i64 b hb, IntKind.wrap_i64]
  omega
theorem i64_and7 (k : Int) (h0 : 0 ≤ k) (h1 : k ≤ 9223372036854775807) : bits .and .i64 k 7 = k % 8 := by
  obtain ⟨K, rfl⟩ := Int.eq_ofNat_of_zero_le h0
  have := i64_and_nat K 7 (by omega) (by omega)
  rw [nat_mask3] at this
  exact this.trans (by omega)
theorem u8_and1 (x : Int) (h0 : 0 ≤ x) (h1 : x ≤ 255) : bits .and .u8 x 1 = x % 2 := by
  obtain ⟨K, rfl⟩ := Int.eq_ofNat_of_zero_le h0
  have := u8_and_nat K 1 (by omega) (by omega)
  rw [nat_mask1] at this
  exact this.trans (by omega)
theorem u8_and127 (x : Int) (h0 : 0 ≤ x) (h1 : x ≤ 255) : bits .and .u8 x 127 = x % 128 := by
  obtain ⟨K, rfl⟩ := Int.eq_ofNat_of_zero_le h0
  have := u8_and_nat K 127 (by omega) (by omega)
  rw [nat_mask7] at this
  exact this.trans (by omega)
theorem nat_or128 : ∀ x : Fin 256, x.1 ||| 128 = x.1 % 128 + 128 := by decide +kernel
theorem u8_or128 (x : Int) (h0 : 0 ≤ x) (h1 : x ≤ 255) : bits .or .u8 x 128 = x % 128 + 128 := by
  obtain ⟨K, rfl⟩ := Int.eq_ofNat_of_zero_le h0
  have := u8_or_nat K 128 (by omega) (by omega)
  rw [nat_or128 ⟨K, by omega⟩] at this
  exact this.trans (by dsimp only; omega)
/-- v with seven bits more on top. -/
theorem or_top (v x : Int) (i : Nat) (hv0 : 0 ≤ v) (hv : v < 128 ^ i) (hx0 : 0 ≤ x) (hx : x < 128) (hi : i ≤ 9) (h9 : x * 128 ^ i ≤ 18446744073709551615) : bits .or .u64 v (x * 128 ^ i) = v + x * 128 ^ i := by
  obtain ⟨V, rfl⟩ := Int.eq_ofNat_of_zero_le hv0
  obtain ⟨X, rfl⟩ := Int.eq_ofNat_of_zero_le hx0
  have hp : (128 : Nat) ^ i = 2 ^ (7 * i) := by rw [Nat.pow_mul]
  have hpi : (128 : Int) ^ i = ((128 ^ i : Nat) : Int) := by rw [Int.natCast_pow]; rfl
  rw [hpi] at hv h9 ⊢
  have h128 : (128 : Nat) ^ i ≤ 128 ^ 9 := Nat.pow_le_pow_right (by omega) hi
  have e : (X : Int) * ((128 ^ i : Nat) : Int) = ((X * 128 ^ i : Nat) : Int) := by rw [Int.natCast_mul]
  rw [e] at h9 ⊢
  have hV : V < 128 ^ i := by omega
  rw [u64_or_nat _ _ (by have : (128:Nat)^9 = 9223372036854775808 := by decide
                         omega) (by omega), Nat.or_comm, nat_join (7 * i) (X * 128 ^ i) V (by rw [hp, Nat.mul_mod_left]) (by rw [← hp]; exact hV)]
  omega

theorem takeC_step {l : List UInt8} {j : Nat} {x : UInt8} (h : l[j]? = some x) (q : Nat) : takeC (l.drop j) j q =
    if (j = 9 ∧ 1 < x.toNat) ∨ (x.toNat = 0 ∧ 0 < j) then (0, 0, 4) else if x.toNat < 128 then (q + x.toNat * 128 ^ j, j + 1, 0) else takeC (l.drop (j + 1)) (j + 1) (q + (x.toNat - 128) * 128 ^ j) := by
  obtain ⟨hj, rfl⟩ := List.getElem?_eq_some_iff.1 h
  rw [List.drop_eq_getElem_cons hj, takeC]
theorem takeC_end {l : List UInt8} {j : Nat} (h : l.length ≤ j) (q : Nat) : takeC (l.drop j) j q = (0, 0, 3) := by
  rw [List.drop_eq_nil_of_le h, takeC]
theorem pow128 (j : Nat) : (2 : Int) ^ (7 * j) = ((128 ^ j : Nat) : Int) := by
  have : (128 : Nat) ^ j = 2 ^ (7 * j) := by rw [Nat.pow_mul]
  rw [this, Int.natCast_pow]
  rfl
theorem tc_or (q : Int) (x j : Nat) (hq0 : 0 ≤ q) (hq : q.toNat < 128 ^ j) (hx : x ≤ 255) (hj : j ≤ 9) (h9 : j = 9 → x ≤ 1) :
    bits .or .u64 q (IntKind.u64.wrap ((x : Int) % 128 * 2 ^ (7 * j))) = ((q.toNat + x % 128 * 128 ^ j : Nat) : Int) := by
  obtain ⟨V, rfl⟩ := Int.eq_ofNat_of_zero_le hq0
  have hb : x % 128 * 128 ^ j ≤ 9223372036854775808 := by
    by_cases h : j = 9
    · subst h
      have := h9 rfl
      have : (128 : Nat) ^ 9 = 9223372036854775808 := by decide
      rw [this]
      omega
    · have h1 : (128 : Nat) ^ j ≤ 128 ^ 8 := Nat.pow_le_pow_right (by omega) (by omega)
      have h2 : x % 128 * 128 ^ j ≤ 127 * 128 ^ 8 := Nat.mul_le_mul (by omega) h1
      have : 127 * (128 : Nat) ^ 8 ≤ 9223372036854775808 := by decide
      omega
  have e : (x : Int) % 128 * 2 ^ (7 * j) = ((x % 128 * 128 ^ j : Nat) : Int) := by rw [pow128, Int.natCast_mul]; rfl
  have hw : IntKind.u64.wrap ((x % 128 * 128 ^ j : Nat) : Int) = ((x % 128 * 128 ^ j : Nat) : Int) := by rw [IntKind.wrap_u64]; omega
  rw [e, hw]
  have hp : (128 : Nat) ^ j = 2 ^ (7 * j) := by rw [Nat.pow_mul]
  have hV : V < 128 ^ j := by omega
  have h128 : (128 : Nat) ^ j ≤ 128 ^ 9 := Nat.pow_le_pow_right (by omega) hj
  have h19 : (128 : Nat) ^ 9 = 9223372036854775808 := by decide
  rw [u64_or_nat _ _ (by omega) (by omega), Nat.or_comm, nat_join (7 * j) (x % 128 * 128 ^ j) V (by rw [hp, Nat.mul_mod_left]) (by rw [← hp]; exact hV)]
  simp only [Int.toNat_natCast]
  omega

theorem xor_u64_ones (x : Int) (h0 : 0 ≤ x) (h1 : x ≤ 18446744073709551615) : bits .xor .u64 x 18446744073709551615 = 18446744073709551615 - x := by
  obtain ⟨X, rfl⟩ := Int.eq_ofNat_of_zero_le h0
  have h := u64_xor_nat X 18446744073709551615 (by omega) (by omega)
  have e : X ^^^ 18446744073709551615 = 18446744073709551615 - X := by
    have h2 : (BitVec.ofNat 64 X ^^^ BitVec.allOnes 64).toNat = 18446744073709551615 - X := by
      rw [BitVec.xor_allOnes, BitVec.toNat_not, BitVec.toNat_ofNat, Nat.mod_eq_of_lt (by omega)]
    rw [BitVec.toNat_xor, BitVec.toNat_ofNat, Nat.mod_eq_of_lt (by omega), BitVec.toNat_allOnes] at h2
    exact h2
  rw [e] at h
  exact h.trans (by omega)
theorem xor_u64_zero (x : Int) (h0 : 0 ≤ x) (h1 : x ≤ 18446744073709551615) : bits .xor .u64 x 0 = x := by
  obtain ⟨X, rfl⟩ := Int.eq_ofNat_of_zero_le h0
  have h := u64_xor_nat X 0 (by omega) (by omega)
  rw [Nat.xor_zero] at h
  exact h
theorem zig_bits (v : Int) (h0 : -9223372036854775808 ≤ v) (h1 : v ≤ 9223372036854775807) :
    bits .xor .u64 (IntKind.u64.wrap (IntKind.u64.wrap v * 2)) (IntKind.u64.wrap (v / 9223372036854775808)) = if v < 0 then 2 * -(v + 1) + 1 else 2 * v := by
  simp only [IntKind.wrap_u64]
  by_cases h : v < 0
  · have e1 : v / 9223372036854775808 % 18446744073709551616 = 18446744073709551615 := by omega
    rw [if_pos h, e1, xor_u64_ones _ (by omega) (by omega)]
    omega
  · have e1 : v / 9223372036854775808 % 18446744073709551616 = 0 := by omega
    rw [if_neg h, e1, xor_u64_zero _ (by omega) (by omega)]
    omega
theorem xor_i64_ones (x : Int) (h0 : 0 ≤ x) (h1 : x ≤ 9223372036854775807) : bits .xor .i64 x (-1) = -x - 1 := by
  obtain ⟨X, rfl⟩ := Int.eq_ofNat_of_zero_le h0
  show IntKind.i64.wrap ((BitVec.ofInt 64 (X : Int) ^^^ BitVec.ofInt 64 (-1)).toNat : Int) = _
  have e : BitVec.ofInt 64 (-1) = BitVec.allOnes 64 := by decide
  rw [e, BitVec.xor_allOnes, BitVec.toNat_not, ofInt_i64 X (by omega), IntKind.wrap_i64]
  omega
theorem xor_i64_zero (x : Int) (h0 : 0 ≤ x) (h1 : x ≤ 9223372036854775807) : bits .xor .i64 x 0 = x := by
  obtain ⟨X, rfl⟩ := Int.eq_ofNat_of_zero_le h0
  show IntKind.i64.wrap ((BitVec.ofInt 64 (X : Int) ^^^ BitVec.ofInt 64 0).toNat : Int) = _
  have e : BitVec.ofInt 64 0 = 0#64 := by decide
  rw [e, BitVec.xor_zero, ofInt_i64 X (by omega), IntKind.wrap_i64]
  omega
theorem zag_bits (v : Int) (h0 : 0 ≤ v) (h1 : v ≤ 18446744073709551615) :
    bits .xor .i64 (v / 2) (wrap64 (-wrap64 (bits .and .u64 v 1))) = if v % 2 = 1 then -(v / 2) - 1 else v / 2 := by
  rw [and_one_u64 v h0 h1]
  by_cases h : v % 2 = 1
  · have e : wrap64 (-wrap64 (v % 2)) = -1 := by rw [h]; unfold wrap64; omega
    rw [if_pos h, e, xor_i64_ones _ (by omega) (by omega)]
  · have e0 : v % 2 = 0 := by omega
    have e : wrap64 (-wrap64 (v % 2)) = 0 := by rw [e0]; unfold wrap64; omega
    rw [if_neg h, e, xor_i64_zero _ (by omega) (by omega)]
theorem wrap_bits (v k : Int) (h0 : 0 ≤ v) (h1 : v ≤ 18446744073709551615) (hk1 : 1 ≤ k) (hk2 : k ≤ 64) :
    wrap64 (IntKind.u64.wrap (v * 2 ^ (64 - k).toNat)) / 2 ^ (64 - k).toNat = if v % 2 ^ k.toNat < 2 ^ (k.toNat - 1) then v % 2 ^ k.toNat else v % 2 ^ k.toNat - 2 ^ k.toNat := by
  obtain ⟨K, rfl⟩ := Int.eq_ofNat_of_zero_le (show 0 ≤ k by omega)
  obtain ⟨q, rfl⟩ : ∃ q, K = q + 1 := ⟨K - 1, by omega⟩
  have e1 : (64 - ((q + 1 : Nat) : Int)).toNat = 63 - q := by omega
  have e2 : ((q + 1 : Nat) : Int).toNat = q + 1 := by omega
  rw [e1, e2, Nat.add_sub_cancel, IntKind.wrap_u64]
  have hs : (2 : Int) ^ (63 - q) * 2 ^ (q + 1) = 18446744073709551616 := by
    rw [← Int.pow_add, show 63 - q + (q + 1) = 64 by omega]; decide
  have hs2 : (2 : Int) ^ (63 - q) * 2 ^ q = 9223372036854775808 := by
    rw [← Int.pow_add, show 63 - q + q = 63 by omega]; decide
  have hpos : (0 : Int) < 2 ^ (63 - q) := Int.pow_pos (by omega)
  have hpq : (0 : Int) < 2 ^ (q + 1) := Int.pow_pos (by omega)
  generalize (2 : Int) ^ (63 - q) = S at *
  have hm : v * S % 18446744073709551616 = S * (v % 2 ^ (q + 1)) := by rw [← hs, Int.mul_comm v S, Int.mul_emod_mul_of_pos _ _ hpos]
  rw [hm]
  have hm0 : 0 ≤ v % 2 ^ (q + 1) := Int.emod_nonneg _ (by omega)
  have hm1 : v % 2 ^ (q + 1) < 2 ^ (q + 1) := Int.emod_lt_of_pos _ hpq
  generalize v % 2 ^ (q + 1) = M at *
  have hb0 : 0 ≤ S * M := Int.mul_nonneg (by omega) hm0
  have hb1 : S * M < 18446744073709551616 := by rw [← hs]; exact Int.mul_lt_mul_of_pos_left hm1 hpos
  by_cases hlt : M < 2 ^ q
  · have : S * M < 9223372036854775808 := by rw [← hs2]; exact Int.mul_lt_mul_of_pos_left hlt hpos
    rw [if_pos hlt, show wrap64 (S * M) = S * M from by unfold wrap64; omega, Int.mul_ediv_cancel_left _ (by omega)]
  · have : 9223372036854775808 ≤ S * M := by rw [← hs2]; exact Int.mul_le_mul_of_nonneg_left (by omega) (by omega)
    rw [if_neg hlt, show wrap64 (S * M) = S * M - 18446744073709551616 from by unfold wrap64; omega, ← hs, ← Int.mul_sub, Int.mul_ediv_cancel_left _ (by omega)]

/-! ### Counts and bits -/
theorem countB_big (q : Nat) (h : 128 ≤ q) : countB q = UInt8.ofNat (q % 128 + 128) :: countB (q / 128) := by rw [countB, if_neg (by omega)]
theorem countB_small (q : Nat) (h : q < 128) : countB q = [UInt8.ofNat q] := by rw [countB, if_pos h]
theorem countB_length (k : Nat) : ∀ v, v < 128 ^ (k + 1) → (countB v).length ≤ k + 1 := by
  induction k with
  | zero => intro v h; rw [countB_small v (by omega)]; simp
  | succ k ih =>
    intro v h
    by_cases hv : v < 128
    · rw [countB_small v hv]; simp
    · rw [countB_big v (by omega), List.length_cons]
      have := ih (v / 128) (by rw [Nat.pow_succ] at h; omega)
      omega
theorem count_len (q v len : Nat) (h : q * 128 ^ len ≤ v) (hv : v ≤ 18446744073709551615) (hq : 127 < q) : len ≤ 8 := by
  rcases Nat.lt_or_ge len 9 with h9 | h9
  · omega
  · have h1 : (128 : Nat) ^ 9 ≤ 128 ^ len := Nat.pow_le_pow_right (by omega) h9
    have h2 : 128 * 128 ^ 9 ≤ q * 128 ^ len := Nat.mul_le_mul (by omega) h1
    have h3 : 128 * (128 : Nat) ^ 9 = 1180591620717411303424 := by decide
    omega
theorem count_next (q v len : Nat) (h : q * 128 ^ len ≤ v) : q / 128 * 128 ^ (len + 1) ≤ v := by
  refine Nat.le_trans ?_ h
  rw [Nat.pow_succ, Nat.mul_comm (128 ^ len) 128, ← Nat.mul_assoc]
  exact Nat.mul_le_mul_right _ (Nat.div_mul_le_self q 128)
theorem count_byte (q : Int) (h0 : 0 ≤ q) : Value.int .u8 (bits .or .u8 (q % 256) 128) = b8 (UInt8.ofNat (q.toNat % 128 + 128)) := by
  rw [u8_or128 _ (by omega) (by omega), b8_ofNat]
  congr 1
  omega
theorem small_byte (q : Int) (h0 : 0 ≤ q) (h1 : q ≤ 127) : Value.int .u8 q = b8 (UInt8.ofNat q.toNat) := by
  rw [b8_ofNat]
  congr 1
  omega

/-- x with bit j so. -/
def setBitB (x : UInt8) (j : Nat) (on : Bool) : UInt8 :=
  UInt8.ofNat (if x.toNat / 2 ^ j % 2 = (if on then 1 else 0) then x.toNat else if on then x.toNat + 2 ^ j else x.toNat - 2 ^ j)
theorem pow2_mod : ∀ j : Fin 8, (2 : Int) ^ j.1 % 256 = ((2 ^ j.1 : Nat) : Int) ∧ 2 ^ j.1 < 256 := by decide
theorem nat_off : ∀ x : Fin 256, ∀ j : Fin 8, x.1 &&& (255 - 2 ^ j.1) = (if x.1 / 2 ^ j.1 % 2 = 0 then x.1 else x.1 - 2 ^ j.1) % 256 := by decide +kernel
theorem nat_on : ∀ x : Fin 256, ∀ j : Fin 8, (x.1 &&& (255 - 2 ^ j.1)) ||| 2 ^ j.1 = (if x.1 / 2 ^ j.1 % 2 = 1 then x.1 else x.1 + 2 ^ j.1) % 256 := by decide +kernel
theorem bits_off (x : UInt8) (j : Nat) (hj : j < 8) : bits .andNot .u8 (x.toNat : Int) ((2 : Int) ^ j % 256) = ((setBitB x j false).toNat : Int) := by
  obtain ⟨h1, h2⟩ := pow2_mod ⟨j, hj⟩
  dsimp only at h1 h2
  have h3 := nat_off ⟨x.toNat, x.toNat_lt⟩ ⟨j, hj⟩
  dsimp only at h3
  rw [h1, u8_andNot_nat _ _ x.toNat_lt h2, h3, setBitB]
  simp
theorem bits_on (x : UInt8) (j : Nat) (hj : j < 8) : bits .or .u8 (bits .andNot .u8 (x.toNat : Int) ((2 : Int) ^ j % 256)) ((2 : Int) ^ j % 256) = ((setBitB x j true).toNat : Int) := by
  obtain ⟨h1, h2⟩ := pow2_mod ⟨j, hj⟩
  dsimp only at h1 h2
  have h3 := nat_on ⟨x.toNat, x.toNat_lt⟩ ⟨j, hj⟩
  dsimp only at h3
  have h4 : x.toNat &&& (255 - 2 ^ j) < 256 := Nat.lt_of_le_of_lt Nat.and_le_left x.toNat_lt
  rw [h1, u8_andNot_nat _ _ x.toNat_lt h2, u8_or_nat _ _ h4 h2, h3, setBitB]
  simp

theorem takeC_bounds (l : List UInt8) : ∀ (i v : Nat), v < 128 ^ i → i ≤ 9 →
    (takeC l i v).1 ≤ 18446744073709551615 ∧ (takeC l i v).2.1 ≤ i + l.length ∧ ((takeC l i v).2.2 ≠ 0 → (takeC l i v).1 = 0 ∧ (takeC l i v).2.1 = 0) ∧ ((takeC l i v).2.2 = 0 → i < (takeC l i v).2.1) ∧ 0 ≤ (takeC l i v).2.2 ∧ (takeC l i v).2.2 ≤ 4 := by
  induction l with
  | nil => intro i v _ _; simp [takeC]
  | cons x r ih =>
    intro i v hv hi
    rw [takeC]
    by_cases hbad : (i = 9 ∧ 1 < x.toNat) ∨ (x.toNat = 0 ∧ 0 < i)
    · rw [if_pos hbad]; simp
    · rw [if_neg hbad]
      have hx := x.toNat_lt
      by_cases h128 : x.toNat < 128
      · rw [if_pos h128]
        have h19 : (128 : Nat) ^ 9 = 9223372036854775808 := by decide
        have hle : v + x.toNat * 128 ^ i ≤ 18446744073709551615 := by
          by_cases h9 : i = 9
          · subst h9
            rw [h19] at hv ⊢
            omega
          · have h1 : (128 : Nat) ^ i ≤ 128 ^ 8 := Nat.pow_le_pow_right (by omega) (by omega)
            have h2 : x.toNat * 128 ^ i ≤ 127 * 128 ^ 8 := Nat.mul_le_mul (by omega) h1
            have h3 : (128 : Nat) ^ 8 = 72057594037927936 := by decide
            omega
        refine ⟨hle, by simp, by simp, by simp, by simp, by simp⟩
      · rw [if_neg h128]
        have h1 : (x.toNat - 128) * 128 ^ i ≤ 127 * 128 ^ i := Nat.mul_le_mul_right _ (by omega)
        have h2 := ih (i + 1) (v + (x.toNat - 128) * 128 ^ i) (by rw [Nat.pow_succ]; omega) (by omega)
        obtain ⟨a, b, c, d, e, f⟩ := h2
        exact ⟨a, by rw [List.length_cons]; omega, c, fun h => by have := d h; omega, e, f⟩

/-- What TakeCount(b) hands back. -/
def tcR (l : List UInt8) : Nat × Nat × Int := takeC l 0 0

end Go.Proofs.YtaopohacelmglaaDoor

/-
  The element type of bytes in this program.
-/
namespace Go.Proofs.YtaopohacelmglaaDoor
open Go.RowKit

theorem eb : ElemT Tryd.prog 23 5 (.int .u8 0) 1 1 := ElemT.of Tryd.underlying23 (by kernel_rfl) rfl (by omega)

end Go.Proofs.YtaopohacelmglaaDoor

/-
  The string of a row of bytes.
-/
namespace Go.Proofs.YtaopohacelmglaaDoor
open Go.RowKit

theorem str_rd {A : Option Addr} {n c : Nat} {l : List UInt8} {w : World} (h : Rd w 1 A n c (l.map b8)) : (convert 23 9 (.slice A n c)).run Tryd.prog w = .ok (.string ⟨l.toArray⟩) w :=
  run_str_rd eb Tryd.underlying5 Tryd.underlying9 h

end Go.Proofs.YtaopohacelmglaaDoor

/-
  A region that draws its order and holds reads beside calls that make memory: it is walked once, in an order of the prover's choice, where each read is as it would be in every world that the region can come to (S), and each call, when it is taken, is the only operation that may come up. Behind a call S may be made narrower.
-/
namespace Go.Proofs.YtaopohacelmglaaDoor
open Go.RowKit

section
variable {P : Program} {ops : Array Oper} {Q : Exit → Act → World → Prop} {md : Region.Mode}

/-- An operation that is carried out by itself. -/
def solo (o : Oper) : Bool := match o.op with
  | .call { callee := .builtin .len, .. } | .call { callee := .builtin .cap, .. } | .call { callee := .builtin .min, .. } | .call { callee := .builtin .max, .. } => false
  | .call _ | .alloc _ | .box .. | .buildSlice .. | .makeSlice .. | .makeMap .. | .store .. | .mapUpdate .. => true
  | _ => false

/-- The walk, the operations by their numbers. -/
def wpMix (P : Program) (ops : Array Oper) (Q : Exit → Act → World → Prop) : List Nat → (World → Prop) → Act → World → Prop
  | [], _, a, w => Q .normal a w
  | i :: r, S, a, w =>
    match ops[i]? with
    | none => False
    | some o =>
      if Region.wanted o (yielded ops a.tmps) = true then
        (solo o = false ∧ ∃ v, (∀ w', S w' → (execOp a.eval o).run P w' = .ok (.value v) w') ∧ wpMix P ops Q r S (a.put o.dst v) w) ∨
        (solo o = true ∧ o.wp P a w (fun a' w' => S w' ∧ ∃ S' : World → Prop, (∀ x, S' x → S x) ∧ S' w' ∧ wpMix P ops Q r S' a' w') Q)
      else wpMix P ops Q r S (a.put o.dst undef) w

/-- Each read may come up and is apart from what may come ahead of it; each call is the only one that may come up. -/
def mixB (md : Region.Mode) (ops : Array Oper) : List Nat → Array Bool → Bool
  | [], listed => (Region.ready md ops listed).isEmpty
  | i :: r, listed =>
    (match ops[i]? with
     | none => false
     | some o => if solo o then Region.ready md ops listed == [i] else (Region.ready md ops listed).contains i && Region.free md ops listed i) &&
    mixB md ops r (listed.setIfInBounds i true)

theorem anyH_weaken {S S' : World → Prop} (hs : ∀ x, S' x → S x) : ∀ (fuel : Nat) (listed : Array Bool) (a : Act) (w : World), wpAnyH P md ops Q S' fuel listed a w → wpAnyH P md ops Q S fuel listed a w
  | 0, _, _, _, h => h
  | fuel + 1, _, _, _, h => ⟨h.1, fun i hi => wpOp_mono (fun a' w' h' => ⟨hs _ h'.1, anyH_weaken hs fuel _ a' w' h'.2⟩) (h.2 i hi)⟩

theorem mix_anyH (hns : Region.noSelect ops = true) (hQ : ∀ c a d v w, Q (.panic c) (Act.put a d v) w → Q (.panic c) a w) :
    ∀ (l : List Nat) (listed : Array Bool) (S : World → Prop) (a : Act) (w : World), mixB md ops l listed = true → S w → wpMix P ops Q l S a w → wpAnyH P md ops Q S l.length listed a w
  | [], listed, S, a, w, hB, _, h => ⟨by simpa [mixB] using hB, h⟩
  | i :: r, listed, S, a, w, hB, hS, h => by
    rw [mixB, Bool.and_eq_true] at hB
    obtain ⟨h1, h2⟩ := hB
    rw [wpMix] at h
    cases ho : ops[i]? with
    | none => simp [ho] at h1
    | some o =>
      simp only [ho] at h h1
      by_cases hw : Region.wanted o (yielded ops a.tmps) = true
      · rw [if_pos hw] at h
        rcases h with ⟨hso, v, hv, hr⟩ | ⟨hso, hwp⟩
        · simp only [hso, Bool.false_eq_true, if_false, Bool.and_eq_true] at h1
          exact wpAnyH_first ho (Region.noSelect_spec hns) (fun c a w => hQ c a o.dst v w) r.length listed a w (Region.free_spec ho h1.2) (by simpa using h1.1) (.inl ⟨hw, hv⟩) hS
            (mix_anyH hns hQ r _ S _ w h2 hS hr)
        · simp only [hso, if_true, beq_iff_eq] at h1
          refine ⟨fun h0 => (by rw [h1] at h0; cases h0), fun j hj => ?_⟩
          rw [h1] at hj
          obtain rfl : j = i := by simpa using hj
          unfold wpOp
          simp only [ho, hw, if_true]
          refine .inl (Oper.wp_mono (fun a' w' ⟨hs1, S', hs2, hs3, hm⟩ => ⟨hs1, anyH_weaken hs2 _ _ _ _ (mix_anyH hns hQ r _ S' a' w' h2 hs3 hm)⟩) hwp)
      · rw [if_neg hw] at h
        have hr := mix_anyH hns hQ r _ S _ w h2 hS h
        by_cases hso : solo o = true
        · simp only [hso, if_true, beq_iff_eq] at h1
          refine ⟨fun h0 => (by rw [h1] at h0; cases h0), fun j hj => ?_⟩
          rw [h1] at hj
          obtain rfl : j = i := by simpa using hj
          unfold wpOp
          simp only [ho, hw, Bool.false_eq_true, if_false]
          exact ⟨hS, hr⟩
        · simp only [hso, Bool.false_eq_true, if_false, Bool.and_eq_true] at h1
          exact wpAnyH_first ho (Region.noSelect_spec hns) (fun c a w => hQ c a o.dst undef w) r.length listed a w (Region.free_spec ho h1.2) (by simpa using h1.1) (.inr ⟨by simpa using hw, rfl⟩) hS hr

theorem wp_region_mix {id : Nat} {a : Act} {w : World} (l : List Nat) (S : World → Prop) (hm : P.follows .mixedOrders = true) (hns : Region.noSelect ops = true) (hlen : l.length = ops.size) (hB : mixB .any ops l (Array.replicate ops.size false) = true)
    (hQ : ∀ c a d v w, Q (.panic c) (Act.put a (some d) v) w → Q (.panic c) a w) (hS : S w.drew) (h : wpMix P ops Q l S a w.drew) : (Code.region id ops true).wp P Q a w :=
  wp_region_held (S := S) hm (by
    have := mix_anyH hns (fun c a d v w hp => match d, hp with | none, hp => hp | some d, hp => hQ c a d v w hp) l (Array.replicate ops.size false) S a w.drew hB hS h
    rw [hlen] at this
    exact this)

/-- What runs to a value, if to anything. -/
def IsVal (s : Sem Next) : Prop := ∀ (P : Program) (w w' : World) (r : Next), s.run P w = .ok r w' → ∃ v, r = .value v
theorem isVal_of (s : Sem Value) : IsVal (do pure (.value (← s))) := by
  intro P w w' r h
  rw [Sem.run_bind] at h
  cases hs : s.run P w with
  | ok v w1 =>
    rw [hs] at h
    simp only [Result.andThen_ok, Sem.run_pure, Result.ok.injEq] at h
    exact ⟨v, h.1.symm⟩
  | halt x w1 =>
    rw [hs] at h
    cases h
/-- An operation that only reads. -/
def reads (o : Oper) : Bool := match o.op with
  | .move _ | .assign _ | .pick .. | .load .. | .binOp .. | .unOp .. | .convert .. | .field .. | .fieldAddr .. | .index .. | .indexAddr .. | .slice .. | .extract .. | .makeInterface .. | .build .. | .lookup .. | .sliceToArrayPointer .. => true
  | .call { callee := .builtin .len, .. } | .call { callee := .builtin .cap, .. } | .call { callee := .builtin .min, .. } | .call { callee := .builtin .max, .. } => true
  | _ => false
theorem isVal_pure (v : Value) : IsVal (pure (.value v)) := by
  intro P w w' r h
  simp only [Sem.run_pure, Result.ok.injEq] at h
  exact ⟨v, h.1.symm⟩
theorem isVal_reads (ρ : Operand → Value) (o : Oper) (h : reads o = true) : IsVal (execOp ρ o) := by
  obtain ⟨dst, op, type, pos, after, guard⟩ := o
  cases op with
  | move x => exact isVal_pure _
  | assign x => exact isVal_pure _
  | pick c a b =>
    intro P w w' r h
    have e : execOp ρ { dst, op := .pick c a b, type, pos, after, guard } = (do pure (.value (if ← asBool (ρ c) then ρ a else ρ b))) := rfl
    rw [e, Sem.run_bind] at h
    cases hs : (asBool (ρ c)).run P w with
    | ok v w1 =>
      rw [hs] at h
      simp only [Result.andThen_ok, Sem.run_pure, Result.ok.injEq] at h
      exact ⟨_, h.1.symm⟩
    | halt x w1 =>
      rw [hs] at h
      cases h
  | load t a => exact isVal_of _
  | binOp a b c d e => exact isVal_of _
  | unOp a b c => exact isVal_of _
  | convert a b c => exact isVal_of _
  | field a b c => exact isVal_of _
  | fieldAddr a b c => exact isVal_of _
  | index a b c => exact isVal_of _
  | indexAddr a b c => exact isVal_of _
  | slice a b c d e => exact isVal_of _
  | extract a b => exact isVal_of _
  | makeInterface a b => exact isVal_of _
  | build a b => exact isVal_of _
  | lookup a b c d => exact isVal_of _
  | sliceToArrayPointer a b => exact isVal_of _
  | call c =>
    obtain ⟨callee, args, ats⟩ := c
    cases callee with
    | builtin b =>
      rw [BigFrame.execOp_builtin]
      cases b <;> first
        | (exfalso; simp [reads] at h; done)
        | (rw [BigFrame.builtin_len]; exact isVal_of _)
        | (rw [BigFrame.builtin_cap]; exact isVal_of _)
        | (rw [BigFrame.builtin_min]; exact isVal_of _)
        | (rw [BigFrame.builtin_max]; exact isVal_of _)
    | value f => simp [reads] at h
    | invoke r m => simp [reads] at h
  | _ => simp [reads] at h
theorem reads_solo {o : Oper} (h : reads o = true) : solo o = false := by
  obtain ⟨dst, op, type, pos, after, guard⟩ := o
  unfold reads at h
  unfold solo
  split at h <;> first | rfl | simp_all

/-- One read, by the quiet walk's own step. -/
theorem mix_read {i : Nat} {o : Oper} {r : List Nat} {S : World → Prop} {a : Act} {w : World} (ho : ops[i]? = some o) (hrd : reads o = true)
    (h : wpQuiet P ops S (fun a' => wpMix P ops Q r S a' w) [o] a) : wpMix P ops Q (i :: r) S a w := by
  rw [wpMix]
  simp only [ho]
  unfold wpQuiet at h
  split
  · rename_i hw
    rw [if_pos hw] at h
    obtain ⟨v, hv, hn⟩ := h
    refine .inl ⟨reads_solo hrd, v, fun w' hS => ?_, hn⟩
    have h1 := hv w' hS
    unfold Oper.quietAt at h1
    have h2 := isVal_reads a.eval o hrd P w'
    generalize (execOp a.eval o).run P w' = res at *
    cases res with
    | ok n x =>
      obtain ⟨u, rfl⟩ := h2 x n rfl
      simp only [Oper.quietUpon] at h1
      obtain ⟨rfl, rfl⟩ := h1
      rfl
    | halt y x => simp only [Oper.quietUpon] at h1
  · rename_i hw
    rw [if_neg hw] at h
    exact h
/-- A load, a build, whose run is known in each such world. -/
theorem mix_load {i : Nat} {o : Oper} {r : List Nat} {S : World → Prop} {a : Act} {w : World} (ho : ops[i]? = some o) {ty : TypeId} {x : Operand} (hop : o.op = .load ty x) (hw : Region.wanted o (yielded ops a.tmps) = true) (ad : Addr) (hx : a.eval x = .pointer (some ad)) (v : Value) (hrun : ∀ w', S w' → (loadVar ty ad).run P w' = .ok v w')
    (h : wpMix P ops Q r S (a.put o.dst v) w) : wpMix P ops Q (i :: r) S a w := by
  rw [wpMix]
  simp only [ho, hw, if_true]
  refine .inl ⟨by unfold solo; rw [hop], v, fun w' hS => ?_, h⟩
  unfold execOp
  simp only [hop, hx, Instr.loadAt, Instr.sureAddr, Sem.run_bind, Sem.run_pure, Result.andThen_ok, hrun w' hS]
theorem mix_build {i : Nat} {o : Oper} {r : List Nat} {S : World → Prop} {a : Act} {w : World} (ho : ops[i]? = some o) {ty : TypeId} {parts : Array (Nat × Operand)} (hop : o.op = .build ty parts) (hw : Region.wanted o (yielded ops a.tmps) = true) (vs : Array (Nat × Value)) (hx : (parts.map fun (i, x) => (i, a.eval x)) = vs) (v : Value) (hrun : ∀ w', S w' → (Instr.build ty vs).run P w' = .ok v w')
    (h : wpMix P ops Q r S (a.put o.dst v) w) : wpMix P ops Q (i :: r) S a w := by
  rw [wpMix]
  simp only [ho, hw, if_true]
  refine .inl ⟨by unfold solo; rw [hop], v, fun w' hS => ?_, h⟩
  unfold execOp
  simp only [hop, hx, Sem.run_bind, Sem.run_pure, Result.andThen_ok, hrun w' hS]
theorem mix_arr {i : Nat} {o : Oper} {r : List Nat} {S : World → Prop} {a : Act} {w : World} (ho : ops[i]? = some o) {ty : TypeId} {x : Operand} (hop : o.op = .sliceToArrayPointer ty x) (hw : Region.wanted o (yielded ops a.tmps) = true) (u : Value) (hx : a.eval x = u) (v : Value) (hrun : ∀ w', S w' → (Instr.arrayAt ty u).run P w' = .ok v w')
    (h : wpMix P ops Q r S (a.put o.dst v) w) : wpMix P ops Q (i :: r) S a w := by
  rw [wpMix]
  simp only [ho, hw, if_true]
  refine .inl ⟨by unfold solo; rw [hop], v, fun w' hS => ?_, h⟩
  unfold execOp
  simp only [hop, hx, Sem.run_bind, Sem.run_pure, Result.andThen_ok, hrun w' hS]
theorem mix_done {S : World → Prop} {a : Act} {w : World} (h : Q .normal a w) : wpMix P ops Q [] S a w := h
/-- One call that is not reached. -/
theorem mix_skip {i : Nat} {o : Oper} {r : List Nat} {S : World → Prop} {a : Act} {w : World} (ho : ops[i]? = some o) (hw : Region.wanted o (yielded ops a.tmps) = false) (h : wpMix P ops Q r S (a.put o.dst undef) w) : wpMix P ops Q (i :: r) S a w := by
  rw [wpMix]
  simp only [ho, hw, Bool.false_eq_true, if_false]
  exact h
/-- One call. -/
theorem mix_call {i : Nat} {o : Oper} {r : List Nat} {S : World → Prop} {a : Act} {w : World} (ho : ops[i]? = some o) (hso : solo o = true) (hw : Region.wanted o (yielded ops a.tmps) = true)
    (h : ∀ K : Act → World → Prop, (∀ (S' : World → Prop) a' w', S w' → (∀ x, S' x → S x) → S' w' → wpMix P ops Q r S' a' w' → K a' w') → o.wp P a w K Q) : wpMix P ops Q (i :: r) S a w := by
  rw [wpMix]
  simp only [ho, hw, if_true]
  exact .inr ⟨hso, h _ (fun S' a' w' h1 h2 h3 h4 => ⟨h1, S', h2, h3, h4⟩)⟩
end

/-! ### The worlds in which all that stood stands -/
structure Later (W : World) where
  at' : World
  below : Below W.heap.size W at'
instance (W : World) : Nonempty (Later W) := ⟨⟨W, Below.refl _ _⟩⟩

section
variable {P : Program} {ops : Array Oper} {Q : Exit → Act → World → Prop} {md : Region.Mode}

theorem wp_region_mixb {id : Nat} {a : Act} {w : World} (l : List Nat) (hm : P.follows .mixedOrders = true) (hns : Region.noSelect ops = true) (hlen : l.length = ops.size) (hB : mixB .any ops l (Array.replicate ops.size false) = true)
    (hQ : ∀ c a d v w, Q (.panic c) (Act.put a (some d) v) w → Q (.panic c) a w) (h : wpMix P ops Q l (fun x => ∃ b : Later w, x = b.at') a w.drew) : (Code.region id ops true).wp P Q a w :=
  wp_region_mix l _ hm hns hlen hB hQ ⟨⟨w.drew, (Below.refl _ _).drew⟩, rfl⟩ h

/-- One call; what stood when it came back stands from then on. -/
theorem mixb_call {i : Nat} {o : Oper} {r : List Nat} {W : World} {a : Act} {w : World} (ho : ops[i]? = some o) (hso : solo o = true) (hw : Region.wanted o (yielded ops a.tmps) = true)
    (h : ∀ K : Act → World → Prop, (∀ a' w', Below W.heap.size W w' → wpMix P ops Q r (fun x => ∃ b : Later w', x = b.at') a' w' → K a' w') → o.wp P a w K Q) : wpMix P ops Q (i :: r) (fun x => ∃ b : Later W, x = b.at') a w :=
  mix_call ho hso hw fun K hK => h K fun a' w' hb hn =>
    hK (fun x => ∃ b : Later w', x = b.at') a' w' ⟨⟨w', hb⟩, rfl⟩ (fun x ⟨b, e⟩ => ⟨⟨x, by subst e; exact hb.trans (b.below.mono hb.size)⟩, rfl⟩) ⟨⟨w', Below.refl _ _⟩, rfl⟩ hn
/-- One call; the facts of the beginning stay in use. -/
theorem mixb_call_as {i : Nat} {o : Oper} {r : List Nat} {W : World} {a : Act} {w : World} (ho : ops[i]? = some o) (hso : solo o = true) (hw : Region.wanted o (yielded ops a.tmps) = true)
    (h : ∀ K : Act → World → Prop, (∀ a' w', Below W.heap.size W w' → wpMix P ops Q r (fun x => ∃ b : Later W, x = b.at') a' w' → K a' w') → o.wp P a w K Q) : wpMix P ops Q (i :: r) (fun x => ∃ b : Later W, x = b.at') a w :=
  mix_call ho hso hw fun K hK => h K fun a' w' hb hn => hK _ a' w' ⟨⟨w', hb⟩, rfl⟩ (fun _ h => h) ⟨⟨w', hb⟩, rfl⟩ hn
end

end Go.Proofs.YtaopohacelmglaaDoor

/-
  Regions that draw their order, once more (see Mix): here a call that leaves the world as it is, and hands back a value that hangs on no world, counts as a read: it need not be the only operation that may come up.
-/
namespace Go.Proofs.YtaopohacelmglaaDoor
open Go.RowKit

section
variable {P : Program} {ops : Array Oper} {Q : Exit → Act → World → Prop} {md : Region.Mode} {S : World → Prop}

/-- What was run handed back v and left w. -/
def YR (P : Program) (w : World) (v : Value) : Result Next → Prop
  | .ok (.value u) w' => u = v ∧ w' = w
  | .ok (.enter f args) w' => w' = w ∧ Calls P f args w fun e w'' => e = .returned v ∧ w'' = w
  | _ => False
/-- Whenever it comes up in a world of S, it does so; or it is not reached. -/
def YC (P : Program) (ops : Array Oper) (S : World → Prop) (o : Oper) (v : Value) (a : Act) : Prop :=
  (Region.wanted o (yielded ops a.tmps) = true ∧ ∀ w, S w → YR P w v ((execOp a.eval o).run P w)) ∨ (Region.wanted o (yielded ops a.tmps) = false ∧ v = undef)
theorem YC.same {o : Oper} {v : Value} {a a' : Act} (hy : YC P ops S o v a) (he : execOp a'.eval o = execOp a.eval o) (hw : Region.wanted o (yielded ops a'.tmps) = Region.wanted o (yielded ops a.tmps)) : YC P ops S o v a' := by
  unfold YC at *
  rwa [he, hw]
theorem YC.go {i : Nat} {o : Oper} {v : Value} {a : Act} (hi : ops[i]? = some o) (hy : YC P ops S o v a) {K : Act → World → Prop} {w : World} (hS : S w) (h : K (a.put o.dst v) w) : wpOp P ops Q i K a w := by
  unfold wpOp
  rw [hi]
  dsimp only
  rcases hy with ⟨hw, hr⟩ | ⟨hw, rfl⟩
  · rw [if_pos hw]
    left
    have hr := hr w hS
    unfold Oper.wp
    generalize (execOp a.eval o).run P w = res at hr
    match res, hr with
    | .ok (.value u) w', hr =>
      obtain ⟨rfl, rfl⟩ := hr
      exact h
    | .ok (.enter f args) w', hr =>
      obtain ⟨rfl, hc⟩ := hr
      rw [Oper.upon_enter]
      refine hc.mono ?_
      rintro e w2 ⟨rfl, rfl⟩
      exact h
  · rw [if_neg (by rw [hw]; decide)]
    exact h
/-- Another operation, apart from it, comes up ahead of it. -/
theorem YC.swap {j : Nat} {oi oj : Oper} {v : Value} (hj : ops[j]? = some oj) (hap : oi.apart ops oj = true) (si : ∀ cs b, oi.op ≠ .select cs b) (sj : ∀ cs b, oj.op ≠ .select cs b)
    (hQ : ∀ c a w, Q (.panic c) (a.put oi.dst v) w → Q (.panic c) a w) {K : Act → World → Prop} {a : Act} {w : World} (hy : YC P ops S oi v a) (h : wpOp P ops Q j K (a.put oi.dst v) w) :
    wpOp P ops Q j (fun a' w' => YC P ops S oi v a' ∧ K (a'.put oi.dst v) w') a w := by
  obtain ⟨p1, p2, p3⟩ := Oper.apart_spec hap
  have k1 : ∀ (b : Act) (u : Value), YC P ops S oi v b → YC P ops S oi v (b.put oj.dst u) := fun b u hb => hb.same (execOp_put oi si b oj.dst u p3) (wanted_put oi b oj.dst u p3)
  have k2 : ∀ (b : Act) (u : Value), K ((b.put oi.dst v).put oj.dst u) w → K ((b.put oj.dst u).put oi.dst v) w := fun b u hb => by rwa [← Act.put_comm b v u p2]
  unfold wpOp at *
  rw [hj] at *
  dsimp only at *
  rw [wanted_put oj a oi.dst v p1] at h
  by_cases hw : Region.wanted oj (yielded ops a.tmps) = true
  · rw [if_pos hw] at h ⊢
    rcases h with h | ⟨h1, h2⟩
    · left
      unfold Oper.wp at *
      rw [execOp_put oj sj a oi.dst v p1] at h
      generalize (execOp a.eval oj).run P w = res at *
      match res, h with
      | .ok (.value u) w', h => exact ⟨k1 _ _ hy, by rw [← Act.put_comm a v u p2]; exact h⟩
      | .ok .skip w', h => exact ⟨k1 _ _ hy, by rw [← Act.put_comm a v undef p2]; exact h⟩
      | .ok (.defer d) w', h => exact ⟨k1 _ _ (hy.same rfl rfl), by rw [← Act.put_comm _ v undef p2, ← Act.put_defers]; exact h⟩
      | .ok (.enter f args) w', h =>
        rw [Oper.upon_enter] at h ⊢
        refine h.mono fun e w2 he => ?_
        match e, he with
        | .returned u, he => exact ⟨k1 _ _ hy, by rw [← Act.put_comm a v u p2]; exact he⟩
        | .panicked c, he => exact hQ _ _ _ he
        | .outgrown, he => exact he
      | .ok (.row r args) w', h =>
        rw [Oper.upon_row] at h ⊢
        exact Rows.mono h fun u w2 he => ⟨k1 _ _ hy, by rw [← Act.put_comm a v u p2]; exact he⟩
      | .halt (.panic u) w', h => exact hQ _ _ _ h
    · right
      refine ⟨?_, h2⟩
      unfold Oper.asks at *
      rwa [execOp_put oj sj a oi.dst v p1] at h1
  · rw [if_neg hw] at h ⊢
    exact ⟨k1 _ _ hy, k2 _ _ h⟩

theorem YC.first {i : Nat} {oi : Oper} {v : Value} (hi : ops[i]? = some oi) (hsel : ∀ (j : Nat) (o : Oper) cs b, ops[j]? = some o → o.op ≠ .select cs b) (hQ : ∀ c a w, Q (.panic c) (a.put oi.dst v) w → Q (.panic c) a w) :
    ∀ (fuel : Nat) (listed : Array Bool) (a : Act) (w : World), (∀ j oj, ops[j]? = some oj → j ≠ i → listed.getD j true = false → (∀ e ∈ oj.after, Region.binds md e = true → e.on ≠ i) → oi.apart ops oj = true) →
      i ∈ Region.ready md ops listed → YC P ops S oi v a → S w → wpAnyH P md ops Q S fuel (listed.setIfInBounds i true) (a.put oi.dst v) w → wpAnyH P md ops Q S (fuel + 1) listed a w
  | fuel, listed, a, w, hfree, hr, hy, hS, H => by
    refine ⟨fun h0 => (by rw [h0] at hr; cases hr), fun j hj => ?_⟩
    by_cases e : j = i
    · subst e
      exact hy.go hi hS ⟨hS, H⟩
    · match fuel, H with
      | 0, H =>
        have := ready_mono hj e
        rw [H.1] at this
        cases this
      | fuel + 1, H =>
        obtain ⟨hun, oj, hoj, hall⟩ := mem_ready.1 hj
        have hun2 := (mem_ready.1 hr).1
        have hno : ∀ x ∈ oj.after, Region.binds md x = true → x.on ≠ i := by
          intro x hx hb hxi
          have h1 := hall x hx hb
          rw [hxi] at h1
          by_cases hlt : i < listed.size
          · simp [hlt] at h1 hun2
            rw [h1] at hun2
            cases hun2
          · simp [Array.getElem?_eq_none (Nat.le_of_not_lt hlt)] at h1
        have h2 := YC.swap hoj (hfree j oj hoj e hun hno) (fun cs b => hsel i oi cs b hi) (fun cs b => hsel j oj cs b hoj) hQ hy (H.2 j (ready_mono hj e))
        refine wpOp_mono (fun a' w' h3 => ⟨h3.2.1, YC.first hi hsel hQ fuel (listed.setIfInBounds j true) a' w' ?_ (ready_mono hr (Ne.symm e)) h3.1 h3.2.1 ?_⟩) h2
        · intro k ok hk hki hku hkn
          refine hfree k ok hk hki ?_ hkn
          by_cases hjk : j = k
          · subst hjk
            exact hun
          · rwa [getD_set_ne true hjk] at hku
        · rw [Array.setIfInBounds_comm _ _ e]
          exact h3.2.2

/-- One operation, as in a walk in the order of the text. -/
def wpOne (P : Program) (ops : Array Oper) (Q : Exit → Act → World → Prop) (o : Oper) (K : Act → World → Prop) (a : Act) (w : World) : Prop :=
  if Region.wanted o (yielded ops a.tmps) = true then o.wp P a w K Q ∨ (o.asks P a w ∧ LetsOut Q) else K (a.put o.dst undef) w
/-- The walk: the operations by their numbers; with true: one that must be the only one that may come up. -/
def wpMixC (P : Program) (ops : Array Oper) (Q : Exit → Act → World → Prop) : List (Nat × Bool) → (World → Prop) → Act → World → Prop
  | [], _, a, w => Q .normal a w
  | (i, b) :: r, S, a, w =>
    match ops[i]? with
    | none => False
    | some o =>
      if b then wpOne P ops Q o (fun a' w' => S w' ∧ ∃ S' : World → Prop, (∀ x, S' x → S x) ∧ S' w' ∧ wpMixC P ops Q r S' a' w') a w
      else ∃ v, YC P ops S o v a ∧ wpMixC P ops Q r S (a.put o.dst v) w

def mixCB (md : Region.Mode) (ops : Array Oper) : List (Nat × Bool) → Array Bool → Bool
  | [], listed => (Region.ready md ops listed).isEmpty
  | (i, b) :: r, listed =>
    (match ops[i]? with
     | none => false
     | some _ => if b then Region.ready md ops listed == [i] else (Region.ready md ops listed).contains i && Region.free md ops listed i) &&
    mixCB md ops r (listed.setIfInBounds i true)

theorem mixc_anyH (hns : Region.noSelect ops = true) (hQ : ∀ c a d v w, Q (.panic c) (Act.put a d v) w → Q (.panic c) a w) :
    ∀ (l : List (Nat × Bool)) (listed : Array Bool) (S : World → Prop) (a : Act) (w : World), mixCB md ops l listed = true → S w → wpMixC P ops Q l S a w → wpAnyH P md ops Q S l.length listed a w
  | [], listed, S, a, w, hB, _, h => ⟨by simpa [mixCB] using hB, h⟩
  | (i, b) :: r, listed, S, a, w, hB, hS, h => by
    rw [mixCB, Bool.and_eq_true] at hB
    obtain ⟨h1, h2⟩ := hB
    rw [wpMixC] at h
    cases ho : ops[i]? with
    | none => simp [ho] at h1
    | some o =>
      simp only [ho] at h h1
      cases b with
      | false =>
        simp only [Bool.false_eq_true, if_false, Bool.and_eq_true] at h h1
        obtain ⟨v, hy, hr⟩ := h
        exact YC.first ho (Region.noSelect_spec hns) (fun c a w => hQ c a o.dst v w) r.length listed a w (Region.free_spec ho h1.2) (by simpa using h1.1) hy hS (mixc_anyH hns hQ r _ S _ w h2 hS hr)
      | true =>
        simp only [if_true, beq_iff_eq] at h h1
        refine ⟨fun h0 => (by rw [h1] at h0; cases h0), fun j hj => ?_⟩
        rw [h1] at hj
        obtain rfl : j = i := by simpa using hj
        have e : ∀ K, wpOne P ops Q o K a w → wpOp P ops Q j K a w := by
          intro K hK
          unfold wpOp
          rw [ho]
          exact hK
        refine e _ ?_
        have h3 : ∀ a' w', (S w' ∧ ∃ S' : World → Prop, (∀ x, S' x → S x) ∧ S' w' ∧ wpMixC P ops Q r S' a' w') → S w' ∧ wpAnyH P md ops Q S r.length (listed.setIfInBounds j true) a' w' := fun a' w' ⟨hs1, S', hs2, hs3, hm⟩ =>
          ⟨hs1, anyH_weaken hs2 _ _ _ _ (mixc_anyH hns hQ r _ S' a' w' h2 hs3 hm)⟩
        unfold wpOne at h ⊢
        split at h
        · rename_i hw
          rw [if_pos hw]
          exact h.imp (Oper.wp_mono h3) id
        · rename_i hw
          rw [if_neg hw]
          exact h3 _ _ h

theorem wp_region_mixg {id : Nat} {a : Act} {w : World} (l : List (Nat × Bool)) (S : World → Prop) (hm : P.follows .mixedOrders = true) (hns : Region.noSelect ops = true) (hlen : l.length = ops.size) (hB : mixCB .any ops l (Array.replicate ops.size false) = true)
    (hQ : ∀ c a d v w, Q (.panic c) (Act.put a (some d) v) w → Q (.panic c) a w) (hS : S w.drew) (h : wpMixC P ops Q l S a w.drew) : (Code.region id ops true).wp P Q a w :=
  wp_region_held (S := S) hm (by
    have := mixc_anyH hns (fun c a d v w hp => match d, hp with | none, hp => hp | some d, hp => hQ c a d v w hp) l (Array.replicate ops.size false) _ a w.drew hB hS h
    rw [hlen] at this
    exact this)
theorem wp_region_mixc {id : Nat} {a : Act} {w : World} (l : List (Nat × Bool)) (hm : P.follows .mixedOrders = true) (hns : Region.noSelect ops = true) (hlen : l.length = ops.size) (hB : mixCB .any ops l (Array.replicate ops.size false) = true)
    (hQ : ∀ c a d v w, Q (.panic c) (Act.put a (some d) v) w → Q (.panic c) a w) (h : wpMixC P ops Q l (fun x => ∃ b : Later w, x = b.at') a w.drew) : (Code.region id ops true).wp P Q a w :=
  wp_region_held (S := fun x => ∃ b : Later w, x = b.at') hm (by
    have := mixc_anyH hns (fun c a d v w hp => match d, hp with | none, hp => hp | some d, hp => hQ c a d v w hp) l (Array.replicate ops.size false) _ a w.drew hB ⟨⟨w.drew, (Below.refl _ _).drew⟩, rfl⟩ h
    rw [hlen] at this
    exact this)

/-- The numbers up to n, those of s alone. -/
def mixL (n : Nat) (s : List Nat) : List (Nat × Bool) := (List.range n).map fun i => (i, s.contains i)

theorem mixc_read {i : Nat} {o : Oper} {r : List (Nat × Bool)} {a : Act} {w : World} (ho : ops[i]? = some o) (hrd : reads o = true)
    (h : wpQuiet P ops S (fun a' => wpMixC P ops Q r S a' w) [o] a) : wpMixC P ops Q ((i, false) :: r) S a w := by
  rw [wpMixC]
  simp only [ho, Bool.false_eq_true, if_false]
  unfold wpQuiet at h
  split at h
  · rename_i hw
    obtain ⟨v, hv, hn⟩ := h
    refine ⟨v, .inl ⟨hw, fun w' hS => ?_⟩, hn⟩
    have h1 := hv w' hS
    unfold Oper.quietAt at h1
    have h2 := isVal_reads a.eval o hrd P w'
    generalize (execOp a.eval o).run P w' = res at *
    cases res with
    | ok n x =>
      obtain ⟨u, rfl⟩ := h2 x n rfl
      simp only [Oper.quietUpon] at h1
      exact ⟨h1.2, h1.1⟩
    | halt y x => simp only [Oper.quietUpon] at h1
  · rename_i hw
    exact ⟨undef, .inr ⟨by simpa using hw, rfl⟩, h⟩
/-- A load, a build, whose run is known in each such world. -/
theorem mixc_run {i : Nat} {o : Oper} {r : List (Nat × Bool)} {a : Act} {w : World} (ho : ops[i]? = some o) (hw : Region.wanted o (yielded ops a.tmps) = true) (v : Value) (hrun : ∀ w', S w' → (execOp a.eval o).run P w' = .ok (.value v) w')
    (h : wpMixC P ops Q r S (a.put o.dst v) w) : wpMixC P ops Q ((i, false) :: r) S a w := by
  rw [wpMixC]
  simp only [ho, Bool.false_eq_true, if_false]
  exact ⟨v, .inl ⟨hw, fun w' hS => by rw [hrun w' hS]; exact ⟨rfl, rfl⟩⟩, h⟩
/-- A quiet call. -/
theorem mixc_quiet {i : Nat} {o : Oper} {r : List (Nat × Bool)} {a : Act} {w : World} (ho : ops[i]? = some o) (hw : Region.wanted o (yielded ops a.tmps) = true) {f : FuncId} {args : Array Value} (v : Value) (hc : ∀ W, (execOp a.eval o).run P W = .ok (.enter f args) W) (hrun : ∀ w', S w' → Calls P f args w' fun e w'' => e = .returned v ∧ w' = w'')
    (h : wpMixC P ops Q r S (a.put o.dst v) w) : wpMixC P ops Q ((i, false) :: r) S a w := by
  rw [wpMixC]
  simp only [ho, Bool.false_eq_true, if_false]
  exact ⟨v, .inl ⟨hw, fun w' hS => by rw [hc w']; exact ⟨rfl, (hrun w' hS).mono fun _ _ ⟨h1, h2⟩ => ⟨h1, h2.symm⟩⟩⟩, h⟩
/-- One that is not reached. -/
theorem mixc_skip {i : Nat} {o : Oper} {r : List (Nat × Bool)} {a : Act} {w : World} (ho : ops[i]? = some o) (hw : Region.wanted o (yielded ops a.tmps) = false) (h : wpMixC P ops Q r S (a.put o.dst undef) w) : wpMixC P ops Q ((i, false) :: r) S a w := by
  rw [wpMixC]
  simp only [ho, Bool.false_eq_true, if_false]
  exact ⟨undef, .inr ⟨hw, rfl⟩, h⟩
theorem mixc_skip1 {i : Nat} {o : Oper} {r : List (Nat × Bool)} {a : Act} {w : World} (ho : ops[i]? = some o) (hw : Region.wanted o (yielded ops a.tmps) = false) (hS : S w) (h : wpMixC P ops Q r S (a.put o.dst undef) w) : wpMixC P ops Q ((i, true) :: r) S a w := by
  rw [wpMixC]
  simp only [ho, if_true]
  unfold wpOne
  rw [if_neg (by rw [hw]; decide)]
  exact ⟨hS, S, fun _ h => h, hS, h⟩
theorem mixc_done {a : Act} {w : World} (h : Q .normal a w) : wpMixC P ops Q [] S a w := h
/-- One that comes up alone; what stood behind it stands from then on. -/
theorem mixc_call {i : Nat} {o : Oper} {r : List (Nat × Bool)} {W : World} {a : Act} {w : World} (ho : ops[i]? = some o) (hw : Region.wanted o (yielded ops a.tmps) = true)
    (h : ∀ K : Act → World → Prop, (∀ a' w', Below W.heap.size W w' → wpMixC P ops Q r (fun x => ∃ b : Later w', x = b.at') a' w' → K a' w') → o.wp P a w K Q) : wpMixC P ops Q ((i, true) :: r) (fun x => ∃ b : Later W, x = b.at') a w := by
  rw [wpMixC]
  simp only [ho, if_true]
  unfold wpOne
  rw [if_pos hw]
  exact .inl (h _ fun a' w' hb hn => ⟨⟨⟨w', hb⟩, rfl⟩, fun x => ∃ b : Later w', x = b.at', fun x ⟨b, e⟩ => ⟨⟨x, by subst e; exact hb.trans (b.below.mono hb.size)⟩, rfl⟩, ⟨⟨w', Below.refl _ _⟩, rfl⟩, hn⟩)
/-- The same; the facts of the beginning stay in use. -/
theorem mixc_call_as {i : Nat} {o : Oper} {r : List (Nat × Bool)} {W : World} {a : Act} {w : World} (ho : ops[i]? = some o) (hw : Region.wanted o (yielded ops a.tmps) = true)
    (h : ∀ K : Act → World → Prop, (∀ a' w', Below W.heap.size W w' → wpMixC P ops Q r (fun x => ∃ b : Later W, x = b.at') a' w' → K a' w') → o.wp P a w K Q) : wpMixC P ops Q ((i, true) :: r) (fun x => ∃ b : Later W, x = b.at') a w := by
  rw [wpMixC]
  simp only [ho, if_true]
  unfold wpOne
  rw [if_pos hw]
  exact .inl (h _ fun a' w' hb hn => ⟨⟨⟨w', hb⟩, rfl⟩, _, fun _ h => h, ⟨⟨w', hb⟩, rfl⟩, hn⟩)

/-- Q, but for what goes on. -/
def QK (K : Act → World → Prop) (Q : Exit → Act → World → Prop) : Exit → Act → World → Prop
  | .normal, a, w => K a w
  | e, a, w => Q e a w
theorem upon_QK {o : Oper} {a : Act} {K K' : Act → World → Prop} : ∀ {r : Result Next}, o.upon P a K (QK K' Q) r → o.upon P a K Q r
  | .ok (.value _) _, h => h
  | .ok .skip _, h => h
  | .ok (.defer _) _, h => h
  | .ok (.enter f args) w', h => by
    rw [Oper.upon_enter] at h ⊢
    refine Calls.mono h fun e w2 he => ?_
    match e, he with
    | .returned u, he => exact he
    | .panicked c, he => exact he
    | .outgrown, he => exact he
  | .ok (.row _ _) _, h => h
  | .halt (.panic _) _, h => h
/-- One that comes up alone, walked as in a region that does not draw. -/
theorem mixc_one {i : Nat} {o : Oper} {r : List (Nat × Bool)} {a : Act} {w : World} (ho : ops[i]? = some o)
    (h : ∀ K : Act → World → Prop, (∀ a' w', S w' → wpMixC P ops Q r S a' w' → K a' w') → wpList P ops (QK K Q) [o] a w) : wpMixC P ops Q ((i, true) :: r) S a w := by
  rw [wpMixC]
  simp only [ho, if_true]
  obtain ⟨K, hK⟩ : ∃ K : Act → World → Prop, K = fun a' w' => S w' ∧ ∃ S' : World → Prop, (∀ x, S' x → S x) ∧ S' w' ∧ wpMixC P ops Q r S' a' w' := ⟨_, rfl⟩
  rw [← hK]
  have h1 := h K (fun a' w' hs hm => by rw [hK]; exact ⟨hs, S, fun _ h => h, hs, hm⟩)
  unfold wpOne
  unfold wpList at h1
  split at h1
  · rename_i hw
    rw [if_pos hw]
    exact h1.imp (fun h2 => upon_QK h2) id
  · rename_i hw
    rw [if_neg hw]
    exact h1
end

end Go.Proofs.YtaopohacelmglaaDoor

/-
  Regions that draw their order (see Mix, MixC): a plan with forks, where two operations that make memory may come up in either order.
-/
namespace Go.Proofs.YtaopohacelmglaaDoor
open Go.RowKit

inductive MPlan where
  | fin
  | read (i : Nat) (p : MPlan)
  | one (i : Nat) (p : MPlan)
  | two (i j : Nat) (p q : MPlan)
  | three (i j k : Nat) (p q r : MPlan)
def MPlan.reads : List Nat → MPlan → MPlan
  | [], p => p
  | i :: l, p => .read i (MPlan.reads l p)

section
variable {P : Program} {ops : Array Oper} {Q : Exit → Act → World → Prop} {md : Region.Mode} {S : World → Prop}

def wpOneAt (P : Program) (ops : Array Oper) (Q : Exit → Act → World → Prop) (i : Nat) (K : Act → World → Prop) (a : Act) (w : World) : Prop :=
  match ops[i]? with
  | none => False
  | some o => wpOne P ops Q o K a w
theorem wpOneAt_op {i : Nat} {K : Act → World → Prop} {a : Act} {w : World} (h : wpOneAt P ops Q i K a w) : wpOp P ops Q i K a w := by
  unfold wpOneAt at h
  unfold wpOp
  cases ho : ops[i]? with
  | none => simp [ho] at h
  | some o =>
    rw [ho] at h
    exact h

def wpPlan (P : Program) (ops : Array Oper) (Q : Exit → Act → World → Prop) (S : World → Prop) : MPlan → Act → World → Prop
  | .fin, a, w => Q .normal a w
  | .read i p, a, w => match ops[i]? with
    | none => False
    | some o => ∃ v, YC P ops S o v a ∧ wpPlan P ops Q S p (a.put o.dst v) w
  | .one i p, a, w => wpOneAt P ops Q i (fun a' w' => S w' ∧ wpPlan P ops Q S p a' w') a w
  | .two i j p q, a, w => wpOneAt P ops Q i (fun a' w' => S w' ∧ wpPlan P ops Q S p a' w') a w ∧ wpOneAt P ops Q j (fun a' w' => S w' ∧ wpPlan P ops Q S q a' w') a w
  | .three i j k p q r, a, w => wpOneAt P ops Q i (fun a' w' => S w' ∧ wpPlan P ops Q S p a' w') a w ∧ wpOneAt P ops Q j (fun a' w' => S w' ∧ wpPlan P ops Q S q a' w') a w ∧ wpOneAt P ops Q k (fun a' w' => S w' ∧ wpPlan P ops Q S r a' w') a w

def planB (md : Region.Mode) (ops : Array Oper) : Nat → MPlan → Array Bool → Bool
  | 0, .fin, listed => (Region.ready md ops listed).isEmpty
  | f + 1, .read i p, listed => (match ops[i]? with
    | none => false
    | some _ => (Region.ready md ops listed).contains i && Region.free md ops listed i) && planB md ops f p (listed.setIfInBounds i true)
  | f + 1, .one i p, listed => (Region.ready md ops listed == [i]) && planB md ops f p (listed.setIfInBounds i true)
  | f + 1, .two i j p q, listed => (Region.ready md ops listed == [i, j]) && planB md ops f p (listed.setIfInBounds i true) && planB md ops f q (listed.setIfInBounds j true)
  | f + 1, .three i j k p q r, listed => (Region.ready md ops listed == [i, j, k]) && planB md ops f p (listed.setIfInBounds i true) && planB md ops f q (listed.setIfInBounds j true) && planB md ops f r (listed.setIfInBounds k true)
  | _, _, _ => false

theorem plan_anyH (hns : Region.noSelect ops = true) (hQ : ∀ c a d v w, Q (.panic c) (Act.put a d v) w → Q (.panic c) a w) :
    ∀ (f : Nat) (p : MPlan) (listed : Array Bool) (a : Act) (w : World), planB md ops f p listed = true → S w → wpPlan P ops Q S p a w → wpAnyH P md ops Q S f listed a w
  | 0, .fin, listed, a, w, hB, _, h => ⟨by simpa [planB] using hB, h⟩
  | f + 1, .read i p, listed, a, w, hB, hS, h => by
    rw [planB, Bool.and_eq_true] at hB
    obtain ⟨h1, h2⟩ := hB
    rw [wpPlan] at h
    cases ho : ops[i]? with
    | none => simp [ho] at h1
    | some o =>
      simp only [ho, Bool.and_eq_true] at h h1
      obtain ⟨v, hy, hr⟩ := h
      exact YC.first ho (Region.noSelect_spec hns) (fun c a w => hQ c a o.dst v w) f listed a w (Region.free_spec ho h1.2) (by simpa using h1.1) hy hS (plan_anyH hns hQ f p _ _ w h2 hS hr)
  | f + 1, .one i p, listed, a, w, hB, hS, h => by
    rw [planB, Bool.and_eq_true, beq_iff_eq] at hB
    obtain ⟨h1, h2⟩ := hB
    refine ⟨fun h0 => (by rw [h1] at h0; cases h0), fun j hj => ?_⟩
    rw [h1] at hj
    obtain rfl : j = i := by simpa using hj
    rw [wpPlan] at h
    exact wpOp_mono (fun a' w' ⟨hs, hp⟩ => ⟨hs, plan_anyH hns hQ f p _ a' w' h2 hs hp⟩) (wpOneAt_op h)
  | f + 1, .two i j p q, listed, a, w, hB, hS, h => by
    rw [planB, Bool.and_eq_true, Bool.and_eq_true, beq_iff_eq] at hB
    obtain ⟨⟨h1, h2⟩, h3⟩ := hB
    refine ⟨fun h0 => (by rw [h1] at h0; cases h0), fun k hk => ?_⟩
    rw [h1] at hk
    rw [wpPlan] at h
    obtain ⟨ha, hb⟩ := h
    have hk2 : k = i ∨ k = j := by simpa using hk
    rcases hk2 with rfl | rfl
    · exact wpOp_mono (fun a' w' ⟨hs, hp⟩ => ⟨hs, plan_anyH hns hQ f p _ a' w' h2 hs hp⟩) (wpOneAt_op ha)
    · exact wpOp_mono (fun a' w' ⟨hs, hp⟩ => ⟨hs, plan_anyH hns hQ f q _ a' w' h3 hs hp⟩) (wpOneAt_op hb)
  | f + 1, .three i j k p q r, listed, a, w, hB, hS, h => by
    rw [planB, Bool.and_eq_true, Bool.and_eq_true, Bool.and_eq_true, beq_iff_eq] at hB
    obtain ⟨⟨⟨h1, h2⟩, h3⟩, h4⟩ := hB
    refine ⟨fun h0 => (by rw [h1] at h0; cases h0), fun m hm => ?_⟩
    rw [h1] at hm
    rw [wpPlan] at h
    obtain ⟨ha, hb, hc⟩ := h
    have hm2 : m = i ∨ m = j ∨ m = k := by simpa using hm
    rcases hm2 with rfl | rfl | rfl
    · exact wpOp_mono (fun a' w' ⟨hs, hp⟩ => ⟨hs, plan_anyH hns hQ f p _ a' w' h2 hs hp⟩) (wpOneAt_op ha)
    · exact wpOp_mono (fun a' w' ⟨hs, hp⟩ => ⟨hs, plan_anyH hns hQ f q _ a' w' h3 hs hp⟩) (wpOneAt_op hb)
    · exact wpOp_mono (fun a' w' ⟨hs, hp⟩ => ⟨hs, plan_anyH hns hQ f r _ a' w' h4 hs hp⟩) (wpOneAt_op hc)
  | 0, .three .., _, _, _, hB, _, _ => by simp [planB] at hB
  | 0, .read .., _, _, _, hB, _, _ => by simp [planB] at hB
  | 0, .one .., _, _, _, hB, _, _ => by simp [planB] at hB
  | 0, .two .., _, _, _, hB, _, _ => by simp [planB] at hB
  | _ + 1, .fin, _, _, _, hB, _, _ => by simp [planB] at hB

theorem wp_region_plan {id : Nat} {a : Act} {w : World} (p : MPlan) (S : World → Prop) (hm : P.follows .mixedOrders = true) (hns : Region.noSelect ops = true) (hB : planB .any ops ops.size p (Array.replicate ops.size false) = true)
    (hQ : ∀ c a d v w, Q (.panic c) (Act.put a (some d) v) w → Q (.panic c) a w) (hS : S w.drew) (h : wpPlan P ops Q S p a w.drew) : (Code.region id ops true).wp P Q a w :=
  wp_region_held (S := S) hm (plan_anyH hns (fun c a d v w hp => match d, hp with | none, hp => hp | some d, hp => hQ c a d v w hp) _ p (Array.replicate ops.size false) a w.drew hB hS h)

theorem plan_read {i : Nat} {o : Oper} {p : MPlan} {a : Act} {w : World} (ho : ops[i]? = some o) (hrd : reads o = true)
    (h : wpQuiet P ops S (fun a' => wpPlan P ops Q S p a' w) [o] a) : wpPlan P ops Q S (.read i p) a w := by
  rw [wpPlan]
  simp only [ho]
  unfold wpQuiet at h
  split at h
  · rename_i hw
    obtain ⟨v, hv, hn⟩ := h
    refine ⟨v, .inl ⟨hw, fun w' hS => ?_⟩, hn⟩
    have h1 := hv w' hS
    unfold Oper.quietAt at h1
    have h2 := isVal_reads a.eval o hrd P w'
    generalize (execOp a.eval o).run P w' = res at *
    cases res with
    | ok n x =>
      obtain ⟨u, rfl⟩ := h2 x n rfl
      simp only [Oper.quietUpon] at h1
      exact ⟨h1.2, h1.1⟩
    | halt y x => simp only [Oper.quietUpon] at h1
  · rename_i hw
    exact ⟨undef, .inr ⟨by simpa using hw, rfl⟩, h⟩
theorem plan_run {i : Nat} {o : Oper} {p : MPlan} {a : Act} {w : World} (ho : ops[i]? = some o) (hw : Region.wanted o (yielded ops a.tmps) = true) (v : Value) (hrun : ∀ w', S w' → (execOp a.eval o).run P w' = .ok (.value v) w')
    (h : wpPlan P ops Q S p (a.put o.dst v) w) : wpPlan P ops Q S (.read i p) a w := by
  rw [wpPlan]
  simp only [ho]
  exact ⟨v, .inl ⟨hw, fun w' hS => by rw [hrun w' hS]; exact ⟨rfl, rfl⟩⟩, h⟩
theorem plan_load {i : Nat} {o : Oper} {p : MPlan} {a : Act} {w : World} (ho : ops[i]? = some o) {ty : TypeId} {x : Operand} (hop : o.op = .load ty x) (hw : Region.wanted o (yielded ops a.tmps) = true) (ad : Addr) (hx : a.eval x = .pointer (some ad)) (v : Value) (hrun : ∀ w', S w' → (loadVar ty ad).run P w' = .ok v w')
    (h : wpPlan P ops Q S p (a.put o.dst v) w) : wpPlan P ops Q S (.read i p) a w :=
  plan_run ho hw v (fun w' hS => by
    unfold execOp
    simp only [hop, hx, Instr.loadAt, Instr.sureAddr, Sem.run_bind, Sem.run_pure, Result.andThen_ok, hrun w' hS]) h
theorem plan_arr {i : Nat} {o : Oper} {p : MPlan} {a : Act} {w : World} (ho : ops[i]? = some o) {ty : TypeId} {x : Operand} (hop : o.op = .sliceToArrayPointer ty x) (hw : Region.wanted o (yielded ops a.tmps) = true) (u : Value) (hx : a.eval x = u) (v : Value) (hrun : ∀ w', (Instr.arrayAt ty u).run P w' = .ok v w')
    (h : wpPlan P ops Q S p (a.put o.dst v) w) : wpPlan P ops Q S (.read i p) a w :=
  plan_run ho hw v (fun w' _ => by
    unfold execOp
    simp only [hop, hx, Sem.run_bind, Sem.run_pure, Result.andThen_ok, hrun w']) h
theorem plan_quiet {i : Nat} {o : Oper} {p : MPlan} {a : Act} {w : World} (ho : ops[i]? = some o) (hw : Region.wanted o (yielded ops a.tmps) = true) {f : FuncId} {args : Array Value} (v : Value) (hc : ∀ W, (execOp a.eval o).run P W = .ok (.enter f args) W) (hrun : ∀ w', S w' → Calls P f args w' fun e w'' => e = .returned v ∧ w' = w'')
    (h : wpPlan P ops Q S p (a.put o.dst v) w) : wpPlan P ops Q S (.read i p) a w := by
  rw [wpPlan]
  simp only [ho]
  exact ⟨v, .inl ⟨hw, fun w' hS => by rw [hc w']; exact ⟨rfl, (hrun w' hS).mono fun _ _ ⟨h1, h2⟩ => ⟨h1, h2.symm⟩⟩⟩, h⟩
theorem plan_skip {i : Nat} {o : Oper} {p : MPlan} {a : Act} {w : World} (ho : ops[i]? = some o) (hw : Region.wanted o (yielded ops a.tmps) = false) (h : wpPlan P ops Q S p (a.put o.dst undef) w) : wpPlan P ops Q S (.read i p) a w := by
  rw [wpPlan]
  simp only [ho]
  exact ⟨undef, .inr ⟨hw, rfl⟩, h⟩
theorem oneAt {i : Nat} {o : Oper} {p : MPlan} {a : Act} {w : World} (ho : ops[i]? = some o)
    (h : ∀ K : Act → World → Prop, (∀ a' w', S w' → wpPlan P ops Q S p a' w' → K a' w') → wpList P ops (QK K Q) [o] a w) : wpOneAt P ops Q i (fun a' w' => S w' ∧ wpPlan P ops Q S p a' w') a w := by
  unfold wpOneAt
  rw [ho]
  dsimp only
  obtain ⟨K, hK⟩ : ∃ K : Act → World → Prop, K = fun a' w' => S w' ∧ wpPlan P ops Q S p a' w' := ⟨_, rfl⟩
  rw [← hK]
  have h1 := h K (fun a' w' hs hm => by rw [hK]; exact ⟨hs, hm⟩)
  unfold wpOne
  unfold wpList at h1
  split at h1
  · rename_i hw
    rw [if_pos hw]
    exact h1.imp (fun h2 => upon_QK h2) id
  · rename_i hw
    rw [if_neg hw]
    exact h1
theorem plan_one {i : Nat} {o : Oper} {p : MPlan} {a : Act} {w : World} (ho : ops[i]? = some o)
    (h : ∀ K : Act → World → Prop, (∀ a' w', S w' → wpPlan P ops Q S p a' w' → K a' w') → wpList P ops (QK K Q) [o] a w) : wpPlan P ops Q S (.one i p) a w := by
  rw [wpPlan]
  exact oneAt ho h
theorem plan_two {i j : Nat} {oi oj : Oper} {p q : MPlan} {a : Act} {w : World} (hi : ops[i]? = some oi) (hj : ops[j]? = some oj)
    (h : ∀ K : Act → World → Prop, (∀ a' w', S w' → wpPlan P ops Q S p a' w' → K a' w') → wpList P ops (QK K Q) [oi] a w)
    (h2 : ∀ K : Act → World → Prop, (∀ a' w', S w' → wpPlan P ops Q S q a' w' → K a' w') → wpList P ops (QK K Q) [oj] a w) : wpPlan P ops Q S (.two i j p q) a w := by
  rw [wpPlan]
  exact ⟨oneAt hi h, oneAt hj h2⟩
theorem plan_three {i j k : Nat} {oi oj ok : Oper} {p q r : MPlan} {a : Act} {w : World} (hi : ops[i]? = some oi) (hj : ops[j]? = some oj) (hk : ops[k]? = some ok)
    (h : ∀ K : Act → World → Prop, (∀ a' w', S w' → wpPlan P ops Q S p a' w' → K a' w') → wpList P ops (QK K Q) [oi] a w)
    (h2 : ∀ K : Act → World → Prop, (∀ a' w', S w' → wpPlan P ops Q S q a' w' → K a' w') → wpList P ops (QK K Q) [oj] a w)
    (h3 : ∀ K : Act → World → Prop, (∀ a' w', S w' → wpPlan P ops Q S r a' w' → K a' w') → wpList P ops (QK K Q) [ok] a w) : wpPlan P ops Q S (.three i j k p q r) a w := by
  rw [wpPlan]
  exact ⟨oneAt hi h, oneAt hj h2, oneAt hk h3⟩
theorem plan_fin {a : Act} {w : World} (h : Q .normal a w) : wpPlan P ops Q S .fin a w := h
end

/-- The worlds in which block g is as it was. -/
structure Keep1 (w : World) (g : Nat) where
  at' : World
  same : at'.heap[g]? = w.heap[g]?
instance (w : World) (g : Nat) : Nonempty (Keep1 w g) := ⟨⟨w, rfl⟩⟩

end Go.Proofs.YtaopohacelmglaaDoor

/-
  A literal of one element, ahead of an append: the world behind it is named.
-/
namespace Go.Proofs.YtaopohacelmglaaDoor
open Go.RowKit

section
variable {P : Program} {ops : Array Oper} {rest : List Oper} {o : Oper} {a : Act} {Q : Exit → Act → World → Prop} {w : World}
theorem wpList_lit1 {t e : TypeId} {z : Value} {bytes : Nat} {x : Operand} {v : Value} (hgd : o.guard = none) (ho : o.op = .buildSlice t 1 #[(0, x)]) (et : ElemT P t e z 1 bytes) (hx : a.eval x = v)
    (hf : Instr.fill (fun i => some (i * 1, 1)) ((Array.range (1 * 1)).map (z.cells[· % z.cells.size]!)) [(0, v)] = some #[v])
    (k : ∀ w', w' = w.alloc (.cells #[v] e) → wpList P ops Q rest (a.put o.dst (.slice (some ⟨w.heap.size, 0, none⟩) 1 1)) w') : wpList P ops Q (o :: rest) a w := by
  obtain ⟨ie, hie, hz, hs, _⟩ := et.info
  refine wpList_buildSlice hgd t e 1 _ ho #[v] ie z et.und hie hz (by rw [hs]; decide) (by rw [hs]; decide) ?_ (k _ rfl)
  rw [hs]
  have e : ((#[(0, x)] : Array (Nat × Operand)).map fun (i, x) => (i, a.eval x)).toList = [(0, v)] := by
    simp [hx]
  rw [e]
  exact hf
end
theorem fill_u8 (y : Int) : Instr.fill (fun i => some (i * 1, 1)) ((Array.range (1 * 1)).map ((Value.int .u8 0).cells[· % (Value.int .u8 0).cells.size]!)) [(0, .int .u8 y)] = some #[.int .u8 y] := by kernel_rfl
theorem fill_str (s : ByteArray) : Instr.fill (fun i => some (i * 1, 1)) ((Array.range (1 * 1)).map ((Value.string ByteArray.empty).cells[· % (Value.string ByteArray.empty).cells.size]!)) [(0, .string s)] = some #[.string s] := by kernel_rfl
/-- What stands behind a literal of one byte. -/
theorem lit1_own {w w' : World} {v : Value} {base : Nat} {t e : TypeId} {size : Nat} {A : Option Addr} {n c : Nat} {xs : List Value} (h : w' = w.alloc (.cells #[v] t)) (ho : Own w base e size A n c xs) : Own w' base e size A n c xs := by
  rw [h]
  exact ho.alloc _
theorem lit1_rd {w w' : World} {v : Value} {t : TypeId} (h : w' = w.alloc (.cells #[v] t)) : Rd w' 1 (some ⟨w.heap.size, 0, none⟩) 1 1 [v] := by
  rw [h]
  exact Rd.lit w [v] t 1 rfl (by unfold maxLen; omega)
theorem lit1_below {w0 w w' : World} {v : Value} {B : Nat} {t : TypeId} (h : w' = w.alloc (.cells #[v] t)) (hb : Below B w0 w) (hB : B ≤ w.heap.size) : Below B w0 w' := by
  rw [h]
  exact hb.alloc hB _

end Go.Proofs.YtaopohacelmglaaDoor

/-
  Package target: part.
-/
namespace Go.Proofs.YtaopohacelmglaaDoor.Tg
open Go.RowKit

def partS (s : List UInt8) : List UInt8 := (partF s).getD []
def partB (s : List UInt8) : Bool := (partF s).isSome
theorem part_no {s : List UInt8} (h : partF s = none) : partS s = [] ∧ partB s = false := by
  unfold partS partB
  rw [h]
  exact ⟨rfl, rfl⟩
theorem part_yes {s o : List UInt8} (h : partF s = some o) : partS s = o ∧ partB s = true := by
  unfold partS partB
  rw [h]
  exact ⟨rfl, rfl⟩
def Parted (s : List UInt8) (w : World) (e : Ending) (w' : World) : Prop := e = .returned (.tuple #[.string ⟨(partS s).toArray⟩, .bool (partB s)]) ∧ Below w.heap.size w w'
def lenV : Value → Nat
  | .string b => b.size
  | _ => 0
theorem hxV_le (x : UInt8) : 0 ≤ hxV (x.toNat : Int) ∧ hxV (x.toNat : Int) ≤ 15 := by
  have h1 := hx_le x
  unfold hx8 at h1
  unfold hxV
  split <;> omega
def escN (a b : UInt8) : Nat := ((hxV (a.toNat : Int)).toNat * 16 + (hxV (b.toNat : Int)).toNat)
def chkE (a b : Fin 16) : Bool := ((bits .or .u8 ((a.1 : Int) * 16 % 256) (b.1 : Int)) == ((a.1 * 16 + b.1 : Nat) : Int))
theorem chkE_fin : ∀ a b : Fin 16, chkE a b = true := by decide +kernel
theorem or_esc (a b : UInt8) : bits .or .u8 (hxV (a.toNat : Int) * 16 % 256) (hxV (b.toNat : Int)) = (escN a b : Int) := by
  obtain ⟨a0, a1⟩ := hxV_le a
  obtain ⟨b0, b1⟩ := hxV_le b
  unfold escN
  generalize hxV (a.toNat : Int) = A at *
  generalize hxV (b.toNat : Int) = B at *
  obtain ⟨n, rfl⟩ : ∃ n : Nat, A = n := ⟨A.toNat, by omega⟩
  obtain ⟨m, rfl⟩ : ∃ m : Nat, B = m := ⟨B.toNat, by omega⟩
  have := chkE_fin ⟨n, by omega⟩ ⟨m, by omega⟩
  unfold chkE at this
  simpa using this
theorem esc_case (a b : UInt8) : (hxB (a.toNat : Int) = false ∧ escV a b = none) ∨ (hxB (a.toNat : Int) = true ∧ hxB (b.toNat : Int) = false ∧ escV a b = none) ∨ (hxB (a.toNat : Int) = true ∧ hxB (b.toNat : Int) = true ∧ escN a b = 0 ∧ escV a b = none) ∨
    (hxB (a.toNat : Int) = true ∧ hxB (b.toNat : Int) = true ∧ escN a b ≠ 0 ∧ escN a b < 256 ∧ escV a b = some (UInt8.ofNat (escN a b))) := by
  have a1 := hx_le a
  have b1 := hx_le b
  have a2 := hx_ge a
  have b2 := hx_ge b
  unfold escV escN hxB hxV
  unfold hx8 at *
  generalize hxI (a.toNat : Int) = A at *
  generalize hxI (b.toNat : Int) = B at *
  by_cases hA : A < 0
  · exact .inl ⟨decide_eq_false (by omega), if_pos (.inl hA)⟩
  · by_cases hB : B < 0
    · exact .inr (.inl ⟨decide_eq_true (by omega), decide_eq_false (by omega), if_pos (.inr (.inl hB))⟩)
    · rw [if_neg hA, if_neg hB]
      by_cases hz : A + B = 0
      · exact .inr (.inr (.inl ⟨decide_eq_true (by omega), decide_eq_true (by omega), by omega, if_pos (.inr (.inr hz))⟩))
      · refine .inr (.inr (.inr ⟨decide_eq_true (by omega), decide_eq_true (by omega), by omega, by omega, ?_⟩))
        rw [if_neg (by omega)]
        congr 2
        omega
theorem map_step {s r : List UInt8} {o r2 : List UInt8} {x : UInt8} (h : partF s = (partF r).map (o ++ ·)) (hr : partF r = (partF r2).map (x :: ·)) : partF s = (partF r2).map ((o ++ [x]) ++ ·) := by
  rw [h, hr]
  cases partF r2 with
  | none => rfl
  | some q => simp
theorem map_none {s r o : List UInt8} (h : partF s = (partF r).map (o ++ ·)) (hr : partF r = none) : partF s = none := by
  rw [h, hr]
  rfl

set_option maxRecDepth 20000 in
set_option maxHeartbeats 8000000 in
theorem part_any (s : List UInt8) (hs : s.length ≤ 1048576) (w : World) : Calls Tryd.prog 59 #[.string ⟨s.toArray⟩] w (Parted s w) := by
  have hNO : partF s = none → ∀ w', Below w.heap.size w w' → Parted s w (.returned (.tuple #[.string ⟨#[]⟩, .bool false])) w' := fun h w' hb => by
    obtain ⟨h1, h2⟩ := part_no h
    unfold Parted
    rw [h1, h2]
    exact ⟨rfl, hb⟩
  have HNO := Lib.hid hNO
  clear hNO
  go_enter Tryd.func59, Tryd.ntmps59
  go_wp2_with fail
  go_loopw [0, 4] (fun sv ov wr => ∃ (r o : List UInt8) (A : Option Addr) (n c : Nat), sv = .string ⟨r.toArray⟩ ∧ ov = .slice A n c ∧ Own wr w.heap.size 5 1 A n c (o.map b8) ∧ n + r.length ≤ 1048576 ∧ Below w.heap.size w wr ∧ Hid (partF s = (partF r).map (o ++ ·))) (fun sv _ _ => lenV sv)
  case atStart => exact ⟨s, [], none, 0, 0, rfl, rfl, Own.nil_ _ _ _ _, by omega, Below.refl _ _, (by show _ = _; cases partF s <;> rfl)⟩
  case round =>
    obtain ⟨r, o, A, n, c, rfl, rfl, ho, hn, hb, hP⟩ := hrel
    rcases r with _ | ⟨x, r⟩
    · have hst := str_rd ho.rd
      have hp : partF s = some o := by rw [hP.out]; simp [partF]
      have HY := Lib.hid (part_yes hp)
      clear hP hp
      go_wp2_with fail
      go_ret2
      unfold Parted
      rw [HY.out.1, HY.out.2]
      exact ⟨rfl, hb⟩
    · have hi : ∀ W, (Instr.index 9 (.string ⟨(x :: r).toArray⟩) (.int .i64 0)).run Tryd.prog W = .ok (.int .u8 (x.toNat : Int)) W := fun W => run_str_at (P := Tryd.prog) Tryd.underlying9 (x :: r) 0 x rfl (kl := .i64) W
      have hsz := size_mk (x :: r)
      obtain ⟨L, hL⟩ : ∃ L, (x :: r).length = L := ⟨_, rfl⟩
      have hL2 : L = r.length + 1 := by rw [← hL]; exact List.length_cons
      rw [hL] at hsz hn
      have hL1 : (1 : Int) ≤ L := by omega
      have HL2 := Lib.hid hL2
      have HPL := Lib.hid (fun W => plain_any x W)
      have hbs := hb.size
      obtain ⟨X, hX⟩ : ∃ X, x :: r = X := ⟨_, rfl⟩
      have HX := Lib.hid hX
      rcases byte_kind x with hp | rfl | hp
      · have hsl : ∀ W, (Instr.sliceAt 9 (.string ⟨(x :: r).toArray⟩) (some (.int .i64 1)) none none).run Tryd.prog W = .ok (.string ⟨r.toArray⟩) W := fun W => run_str_l (P := Tryd.prog) Tryd.underlying9 (x :: r) 1 (by simp) (kl := .i64) W
        have HS := Lib.hid (map_step hP.out (partF_pl hp r))
        rw [hp] at HPL
        rw [hX] at hi hsz hsl
        rw [hX]
        clear hp hP hX hL hL2
        go_wp2_with fail
        refine (HPL.out _).mono ?_
        rintro e w2 ⟨rfl, rfl⟩
        go_upto_region 4 with fail
        have hr := ho.drew
        refine wp_region_plan (MPlan.reads [0, 1, 2, 5, 6] (.one 3 (.one 4 (MPlan.reads [7, 8] .fin)))) (fun _ => True) (by kernel_rfl) (by kernel_rfl) (by kernel_rfl) (fun _ _ _ _ _ h => h) trivial ?_
        iterate 5 (refine plan_read (o := ⟨_, _, _, _, _, _⟩) (by rfl) (by rfl) ?_; go_big_quiet_step (fail); refine wpQuiet_nil ?_)
        refine plan_one (o := ⟨_, _, _, _, _, _⟩) (by rfl) (fun K hK => ?_)
        refine wpList_lit1 (v := .int .u8 (x.toNat : Int)) rfl rfl eb rfl (fill_u8 _) ?_
        intro w3 hw3
        have hr3 := lit1_own hw3 hr
        have hl3 := lit1_rd hw3
        have hb3 := lit1_below hw3 hb.drew hbs
        have hbs3 := hb3.size
        clear hw3
        go_wp2_with fail
        refine hK _ _ trivial ?_
        clear hK
        refine plan_one (o := ⟨_, _, _, _, _, _⟩) (by rfl) (fun K hK => ?_)
        refine wpList_app rfl _ _ rfl eb hr3 rfl hl3 rfl (by simp [Value.oneCell']) (by omega) (by unfold maxLen; omega) hbs3 ?_
        intro A4 c4 w4 ho4 hg4 hq4
        have hb4 := below_apps hb3 (Nat.le_refl _) hr3 hg4
        go_wp2_with fail
        refine hK _ _ trivial ?_
        clear hK
        iterate 2 (refine plan_read (o := ⟨_, _, _, _, _, _⟩) (by rfl) (by rfl) ?_; go_big_quiet_step (fail); refine wpQuiet_nil ?_)
        refine plan_fin ?_
        have ho5 : Own w4 w.heap.size 5 1 A4 (n + 1) c4 ((o ++ [x]).map b8) := by
          rw [List.map_append]
          exact ho4
        go_wp2_with fail
        go_roundw
        case rel => exact ⟨r, o ++ [x], A4, n + 1, c4, rfl, rfl, ho5, by have := HL2.out; omega, hb4, HS⟩
        case measure => have := HX.out; subst this; simp [lenV, ByteArray.size] <;> omega
      · clear hi HPL
        have hi : ∀ W, (Instr.index 9 (.string ⟨X.toArray⟩) (.int .i64 0)).run Tryd.prog W = .ok (.int .u8 37) W := fun W => by rw [← hX]; exact run_str_at (P := Tryd.prog) Tryd.underlying9 (37 :: r) 0 37 rfl (kl := .i64) W
        have HPL : Hid (∀ W, Calls Tryd.prog 73 #[.int .u8 37] W fun e w' => e = .returned (.bool false) ∧ W = w') := fun W => by
          have := plain_any 37 W
          rw [pl37] at this
          exact this
        rw [hX] at hsz ⊢
        by_cases hL3 : (L : Int) < 3
        · have hno := map_none hP.out (partF_short (l := r) (by omega))
          have HE := Lib.hid (HNO.out hno _ hb)
          clear hno hP hX hL hL2 HX
          go_wp2_with fail
          refine (HPL.out _).mono ?_
          rintro e w2 ⟨rfl, rfl⟩
          go_wp2_with fail
          go_ret2
          exact HE.out
        · have hL3' : (3 : Int) ≤ L := by omega
          clear HX
          rcases r with _ | ⟨a, _ | ⟨b, r⟩⟩
          · simp at hL2
            omega
          · simp at hL2
            omega
          ·
            have hia : ∀ W, (Instr.index 9 (.string ⟨X.toArray⟩) (.int .i64 1)).run Tryd.prog W = .ok (.int .u8 (a.toNat : Int)) W := fun W => by rw [← hX]; exact run_str_at (P := Tryd.prog) Tryd.underlying9 (37 :: a :: b :: r) 1 a rfl (kl := .i64) W
            have hib : ∀ W, (Instr.index 9 (.string ⟨X.toArray⟩) (.int .i64 2)).run Tryd.prog W = .ok (.int .u8 (b.toNat : Int)) W := fun W => by rw [← hX]; exact run_str_at (P := Tryd.prog) Tryd.underlying9 (37 :: a :: b :: r) 2 b rfl (kl := .i64) W
            have hsl : ∀ W, (Instr.sliceAt 9 (.string ⟨X.toArray⟩) (some (.int .i64 3)) none none).run Tryd.prog W = .ok (.string ⟨r.toArray⟩) W := fun W => by rw [← hX]; exact run_str_l (P := Tryd.prog) Tryd.underlying9 (37 :: a :: b :: r) 3 (by simp) (kl := .i64) W
            have HA := Lib.hid (fun W => half_any (a.toNat : Int) (by omega) (by have := a.toNat_lt; omega) W)
            have HB := Lib.hid (fun W => half_any (b.toNat : Int) (by omega) (by have := b.toNat_lt; omega) W)
            have hor := or_esc a b
            have hcs := esc_case a b
            have HLr : Hid (L = r.length + 3) := by show _ = _; rw [hL2]; rfl
            obtain ⟨N, hN⟩ : ∃ N, escN a b = N := ⟨_, rfl⟩
            rw [hN] at hor hcs
            obtain ⟨VA, hVA⟩ : ∃ v, hxV (a.toNat : Int) = v := ⟨_, rfl⟩
            obtain ⟨VB, hVB⟩ : ∃ v, hxV (b.toNat : Int) = v := ⟨_, rfl⟩
            obtain ⟨BA, hBA⟩ : ∃ v, hxB (a.toNat : Int) = v := ⟨_, rfl⟩
            obtain ⟨BB, hBB⟩ : ∃ v, hxB (b.toNat : Int) = v := ⟨_, rfl⟩
            rw [hVA, hBA] at HA
            rw [hVB, hBB] at HB
            rw [hVA, hVB] at hor
            rw [hBA, hBB] at hcs
            have HX := Lib.hid hX
            clear hVA hVB hBA hBB hN hX hL hL2 hL3 HL2
            rcases hcs with ⟨rfl, he⟩ | ⟨rfl, rfl, he⟩ | ⟨rfl, rfl, rfl, he⟩ | ⟨rfl, rfl, h0, h1, he⟩
            · have hno : partF s = none := map_none hP.out (by rw [partF_esc, he]; rfl)
              have HE := Lib.hid (HNO.out hno _ hb)
              clear hno hP he
              go_wp2_with fail
              refine (HPL.out _).mono ?_
              rintro e w2 ⟨rfl, rfl⟩
              go_wp2_with fail
              refine (HA.out _).mono ?_
              rintro e w2 ⟨rfl, rfl⟩
              go_wp2_with fail
              refine (HB.out _).mono ?_
              rintro e w2 ⟨rfl, rfl⟩
              go_wp2_with fail
              go_ret2
              exact HE.out
            · have hno : partF s = none := map_none hP.out (by rw [partF_esc, he]; rfl)
              have HE := Lib.hid (HNO.out hno _ hb)
              clear hno hP he
              go_wp2_with fail
              refine (HPL.out _).mono ?_
              rintro e w2 ⟨rfl, rfl⟩
              go_wp2_with fail
              refine (HA.out _).mono ?_
              rintro e w2 ⟨rfl, rfl⟩
              go_wp2_with fail
              refine (HB.out _).mono ?_
              rintro e w2 ⟨rfl, rfl⟩
              go_wp2_with fail
              go_ret2
              exact HE.out
            · have hno : partF s = none := map_none hP.out (by rw [partF_esc, he]; rfl)
              have HE := Lib.hid (HNO.out hno _ hb)
              clear hno hP he
              go_wp2_with fail
              refine (HPL.out _).mono ?_
              rintro e w2 ⟨rfl, rfl⟩
              go_wp2_with fail
              refine (HA.out _).mono ?_
              rintro e w2 ⟨rfl, rfl⟩
              go_wp2_with fail
              refine (HB.out _).mono ?_
              rintro e w2 ⟨rfl, rfl⟩
              go_wp2_with fail
              go_ret2
              exact HE.out
            · have HS := Lib.hid (map_step hP.out (x := UInt8.ofNat N) (r2 := r) (by rw [partF_esc, he]; rfl))
              have h0' : ((N : Int) == 0) = false := by simpa using h0
              have hbN : b8 (UInt8.ofNat N) = .int .u8 (N : Int) := by
                rw [b8_ofNat, Nat.mod_eq_of_lt h1]
              have HBN := Lib.hid hbN
              clear hP he h0 hbN
              go_wp2_with fail
              refine (HPL.out _).mono ?_
              rintro e w2 ⟨rfl, rfl⟩
              go_wp2_with fail
              refine (HA.out _).mono ?_
              rintro e w2 ⟨rfl, rfl⟩
              go_wp2_with fail
              refine (HB.out _).mono ?_
              rintro e w2 ⟨rfl, rfl⟩
              go_upto_region 12 with fail
              have hr := ho.drew
              refine wp_region_plan (MPlan.reads [0, 1, 4, 5] (.one 2 (.one 3 (MPlan.reads [6, 7] .fin)))) (fun _ => True) (by kernel_rfl) (by kernel_rfl) (by kernel_rfl) (fun _ _ _ _ _ h => h) trivial ?_
              iterate 4 (refine plan_read (o := ⟨_, _, _, _, _, _⟩) (by rfl) (by rfl) ?_; go_big_quiet_step (fail); refine wpQuiet_nil ?_)
              refine plan_one (o := ⟨_, _, _, _, _, _⟩) (by rfl) (fun K hK => ?_)
              refine wpList_lit1 (v := .int .u8 (N : Int)) rfl rfl eb rfl (fill_u8 _) ?_
              intro w3 hw3
              have hr3 := lit1_own hw3 hr
              have hl3 := lit1_rd hw3
              have hb3 := lit1_below hw3 hb.drew hbs
              have hbs3 := hb3.size
              clear hw3
              go_wp2_with fail
              refine hK _ _ trivial ?_
              clear hK
              refine plan_one (o := ⟨_, _, _, _, _, _⟩) (by rfl) (fun K hK => ?_)
              refine wpList_app rfl _ _ rfl eb hr3 rfl hl3 rfl (by simp [Value.oneCell']) (by omega) (by unfold maxLen; omega) hbs3 ?_
              intro A4 c4 w4 ho4 hg4 hq4
              have hb4 := below_apps hb3 (Nat.le_refl _) hr3 hg4
              go_wp2_with fail
              refine hK _ _ trivial ?_
              clear hK
              iterate 2 (refine plan_read (o := ⟨_, _, _, _, _, _⟩) (by rfl) (by rfl) ?_; go_big_quiet_step (fail); refine wpQuiet_nil ?_)
              refine plan_fin ?_
              have ho5 : Own w4 w.heap.size 5 1 A4 (n + 1) c4 ((o ++ [UInt8.ofNat N]).map b8) := by
                rw [List.map_append, List.map_singleton, HBN.out]
                exact ho4
              go_wp2_with fail
              go_roundw
              case rel => exact ⟨r, o ++ [UInt8.ofNat N], A4, n + 1, c4, rfl, rfl, ho5, by have := HLr.out; omega, hb4, HS⟩
              case measure => have := HX.out; subst this; simp [lenV, ByteArray.size] <;> omega
      · have hno := map_none hP.out (partF_stop hp r)
        have HE := Lib.hid (HNO.out hno _ hb)
        have hne := ne_int (x := x) (c := 37) (by omega) hp.2
        have hne' : ((x.toNat : Int) != 37) = true := by
          have : ((x.toNat : Int) == 37) = false := hne
          simp [bne, this]
        rw [hp.1] at HPL
        rw [hX] at hi hsz ⊢
        clear hno hne hp hP hX hL hL2 HX
        go_wp2_with fail
        refine (HPL.out _).mono ?_
        rintro e w2 ⟨rfl, rfl⟩
        go_wp2_with fail
        go_ret2
        exact HE.out

end Go.Proofs.YtaopohacelmglaaDoor.Tg

/-
  Plain: what a target says; the same, forwards, name by name.
-/
namespace Go.Proofs.YtaopohacelmglaaDoor.Tg
open Go.RowKit

abbrev Pm := List UInt8 × List UInt8
abbrev TgR := List (List UInt8) × List Pm × Nat
def mapP {β : Type} (f : List UInt8 → Option β) : List (List UInt8) → Option (List β)
  | [] => some []
  | x :: xs => (f x).bind fun y => (mapP f xs).map (y :: ·)
def nameF (s : List UInt8) : Option (List UInt8) := (partF s).bind fun o => if o = [] then none else some o
def pathC : List UInt8 → Option (List (List UInt8))
  | [] => some []
  | x :: l => if x = 47 then mapP nameF (split1 47 l) else none
theorem pathC_go (l : List UInt8) : pathC (47 :: l) = mapP nameF (split1 47 l) := by rw [pathC, if_pos rfl]
def pathF (s : List UInt8) : Option (List (List UInt8)) :=
  if s = [47] then some [] else match s with
    | [] => none
    | x :: l => if x = 47 then mapP nameF (split1 47 l) else none
def parF (s : List UInt8) : Option Pm := if (cut1 61 s).2.2 then (nameF (cut1 61 s).1).bind fun n => (partF (cut1 61 s).2.1).map fun v => (n, v) else none
def queryF (s : List UInt8) : Option (List Pm) := mapP parF (split1 38 s)
/-- May the parameter k stand behind those ahead of it? -/
def GoodQ (Q : List Pm) (k : Nat) : Prop := ∀ q, Q[k]? = some q → q.1 ≠ [] ∧ (0 : UInt8) ∉ q.1 ∧ (0 : UInt8) ∉ q.2 ∧ ∀ (j : Nat) p, j < k → Q[j]? = some p → p.1 ≠ q.1
def GoodP (p : List UInt8) : Prop := p ≠ [] ∧ (0 : UInt8) ∉ p
def MayP (P : List (List UInt8)) (Q : List Pm) : Prop := (∀ p ∈ P, GoodP p) ∧ ∀ k, GoodQ Q k
open Classical in
noncomputable def mayF (P : List (List UInt8)) (Q : List Pm) : Bool := decide (MayP P Q)
theorem mayF_yes {P : List (List UInt8)} {Q : List Pm} (h : MayP P Q) : mayF P Q = true := by
  unfold mayF
  exact @decide_eq_true _ (Classical.propDecidable _) h
theorem mayF_no {P : List (List UInt8)} {Q : List Pm} (h : ¬ MayP P Q) : mayF P Q = false := by
  unfold mayF
  exact @decide_eq_false _ (Classical.propDecidable _) h
theorem mayF_iff {P : List (List UInt8)} {Q : List Pm} : mayF P Q = true ↔ MayP P Q := by
  unfold mayF
  exact @decide_eq_true_iff _ (Classical.propDecidable _)
noncomputable def finF (P : List (List UInt8)) (Q : List Pm) : TgR := if mayF P Q then (P, Q, 0) else ([], [], 6)
noncomputable def contQ (P : List (List UInt8)) (Q : List Pm) (l : List UInt8) : TgR := match queryF l with
  | none => ([], [], 4)
  | some R => finF P (Q ++ R)
noncomputable def contEnd (P : List (List UInt8)) (a : List UInt8) (f : Bool) : TgR := if f then contQ P [] a else finF P []
noncomputable def contP (P : List (List UInt8)) (l : List UInt8) : TgR := match pathC (cut1 63 l).1 with
  | none => ([], [], 4)
  | some P' => contEnd (P ++ P') (cut1 63 l).2.1 (cut1 63 l).2.2
noncomputable def parseF (s : List UInt8) : TgR := match pathF (cut1 63 s).1 with
  | none => ([], [], 4)
  | some P => contEnd P (cut1 63 s).2.1 (cut1 63 s).2.2

theorem cut1_pre (c : UInt8) (l : List UInt8) : ∃ r, l = (cut1 c l).1 ++ r ∧ (r = [] ∨ ∃ t, r = c :: t) := by
  cases h : (cut1 c l).2.2
  · obtain ⟨h1, _⟩ := cut1_none c l h
    exact ⟨[], by rw [h1, List.append_nil], .inl rfl⟩
  · exact ⟨c :: (cut1 c l).2.1, cut1_app c l h, .inr ⟨_, rfl⟩⟩
theorem split1_head (c : UInt8) (l : List UInt8) : ∃ ps, split1 c l = (cut1 c l).1 :: ps := by
  rw [split1_cut]
  cases h : (cut1 c l).2.2
  · obtain ⟨h1, _⟩ := cut1_none c l h
    exact ⟨[], by rw [h1]; rfl⟩
  · exact ⟨_, rfl⟩
theorem nameF_some {s o : List UInt8} (h : nameF s = some o) : partF s = some o ∧ o ≠ [] := by
  obtain ⟨o2, h1, h2⟩ := Option.bind_eq_some_iff.1 h
  split at h2
  · cases h2
  · rename_i hn
    obtain rfl := Option.some.inj h2
    exact ⟨h1, hn⟩
theorem nameF_of {s o : List UInt8} (h : partF s = some o) (hn : o ≠ []) : nameF s = some o := by
  unfold nameF
  rw [h]
  exact if_neg hn
theorem nameF_stop {a : List UInt8} {x : UInt8} {t : List UInt8} (hx : stopB x) (h : partF a ≠ none) : nameF (a ++ x :: t) = none := by
  unfold nameF
  rw [part_stop_in _ a (Nat.le_refl _) x t hx h]
  rfl
theorem some_ne {α : Type} {x : Option α} {a : α} (h : x = some a) : x ≠ none := by rw [h]; exact fun h => by cases h
theorem part_goes {a o : List UInt8} (h : partF a = some o) {rest : List UInt8} (hr : endL rest) : rpartF (a ++ rest) = some (o, rest) := part_go _ a o (Nat.le_refl _) h rest hr
theorem part_none {l o : List UInt8} (h : partF l = some o) : (0 : UInt8) ∉ o := (part_zero _ l o (Nat.le_refl _) h).1
theorem part_le {l o : List UInt8} (h : partF l = some o) : o.length ≤ l.length := (part_zero _ l o (Nat.le_refl _) h).2.1

/-! ### the path -/
theorem cont_step (P : List (List UInt8)) {pre o rest : List UInt8} (h : partF pre = some o) (ho : o ≠ []) (hr : endL rest) : contP P (47 :: (pre ++ rest)) = contP (P ++ [o]) rest := by
  have h47 := part_not h no47
  have h63 := part_not h no63
  have h63' : (63 : UInt8) ∉ (47 : UInt8) :: pre := by simp [h63]
  have hc : cut1 63 (47 :: (pre ++ rest)) = (47 :: (pre ++ (cut1 63 rest).1), (cut1 63 rest).2) := by
    have := cut1_front h63' rest
    rw [List.cons_append] at this
    rw [this]
    rfl
  have hb : (cut1 63 rest).1 = [] ∨ ∃ x t, stopB x ∧ (cut1 63 rest).1 = x :: t := by
    match rest, hr with
    | [], _ => exact .inl rfl
    | x :: t, hr =>
      rw [cut1]
      split
      · exact .inl rfl
      · exact .inr ⟨x, _, hr x t rfl, rfl⟩
  unfold contP
  rw [hc]
  dsimp only
  rcases hb with hb | ⟨x, t, hx, hb⟩
  · rw [hb, List.append_nil, pathC_go, split1_none h47]
    simp [mapP, nameF_of h ho, pathC]
  · rw [hb, pathC_go]
    by_cases hx47 : x = 47
    · subst hx47
      rw [split1_front h47, mapP, nameF_of h ho, pathC_go]
      cases mapP nameF (split1 47 t) with
      | none => rfl
      | some P' => simp
    · rw [pathC, if_neg hx47]
      obtain ⟨ps, hps⟩ := split1_head 47 (pre ++ x :: t)
      have hf : (cut1 47 (pre ++ x :: t)).1 = pre ++ x :: (cut1 47 t).1 := by
        rw [cut1_front h47, cut1, if_neg hx47]
      rw [hps, hf, mapP, nameF_stop hx (some_ne h)]
      rfl
theorem pathC_some {l P : List UInt8} {Q : List (List UInt8)} (h : pathC (cut1 63 (47 :: l)).1 = some Q) : ∃ o r, o ≠ [] ∧ rpartF l = some (o, r) := by
  have hc : (cut1 63 (47 :: l)).1 = 47 :: (cut1 63 l).1 := by rw [cut1, if_neg (by decide)]
  rw [hc, pathC_go] at h
  obtain ⟨ps, hps⟩ := split1_head 47 (cut1 63 l).1
  rw [hps, mapP] at h
  obtain ⟨o, ho, _⟩ := Option.bind_eq_some_iff.1 h
  obtain ⟨h1, h2⟩ := nameF_some ho
  obtain ⟨r1, e1, c1⟩ := cut1_pre 63 l
  obtain ⟨r2, e2, c2⟩ := cut1_pre 47 (cut1 63 l).1
  have e : l = (cut1 47 (cut1 63 l).1).1 ++ (r2 ++ r1) := by rw [← List.append_assoc, ← e2, ← e1]
  have hr : endL (r2 ++ r1) := by
    rcases c2 with rfl | ⟨t, rfl⟩
    · rcases c1 with rfl | ⟨t, rfl⟩
      · exact endL_nil
      · exact endL_cons _ stop63
    · exact endL_cons _ stop47
  refine ⟨o, r2 ++ r1, h2, ?_⟩
  have := part_goes h1 hr
  rw [← e] at this
  exact this
theorem cont_bad (P : List (List UInt8)) {l : List UInt8} (h : ∀ o r, rpartF l = some (o, r) → o = []) : contP P (47 :: l) = ([], [], 4) := by
  unfold contP
  cases hq : pathC (cut1 63 (47 :: l)).1 with
  | none => rfl
  | some Q =>
    obtain ⟨o, r, h1, h2⟩ := pathC_some (P := []) hq
    exact absurd (h o r h2) h1
theorem cont_nil (P : List (List UInt8)) : contP P [] = finF P [] := by
  unfold contP
  simp [cut1, pathC, contEnd]
theorem cont_query (P : List (List UInt8)) (t : List UInt8) : contP P (63 :: t) = contQ P [] t := by
  unfold contP
  rw [cut1_hit]
  simp [pathC, contEnd]
theorem cont_other (P : List (List UInt8)) {x : UInt8} (t : List UInt8) (h1 : x ≠ 47) (h2 : x ≠ 63) : contP P (x :: t) = ([], [], 4) := by
  unfold contP
  rw [cut1, if_neg h2]
  simp [pathC, h1]
theorem parse_nil : parseF [] = ([], [], 4) := rfl
theorem parse_other {x : UInt8} (t : List UInt8) (h : x ≠ 47) : parseF (x :: t) = ([], [], 4) := by
  unfold parseF
  have hp : pathF (cut1 63 (x :: t)).1 = none := by
    rw [cut1]
    split
    · rfl
    · simp [pathF, h]
  rw [hp]
theorem parse_root : parseF [47] = contP [] [] := by
  rw [cont_nil]
  rfl
theorem parse_rootQ (t : List UInt8) : parseF (47 :: 63 :: t) = contP [] (63 :: t) := by
  rw [cont_query]
  unfold parseF
  have : cut1 63 (47 :: 63 :: t) = ([47], t, true) := by rw [cut1, if_neg (by decide), cut1_hit]
  rw [this]
  simp [pathF, contEnd]
theorem parse_path {y : UInt8} (t : List UInt8) (h : y ≠ 63) : parseF (47 :: y :: t) = contP [] (47 :: y :: t) := by
  unfold parseF contP
  have : (cut1 63 (47 :: y :: t)).1 = 47 :: y :: (cut1 63 t).1 := by rw [cut1, if_neg (by decide), cut1, if_neg h]
  rw [this]
  simp [pathF, pathC]

/-! ### the query -/
theorem parF_of {a b n v : List UInt8} (h1 : partF a = some n) (hn : n ≠ []) (h2 : partF b = some v) : parF (a ++ 61 :: b) = some (n, v) := by
  unfold parF
  rw [cut1_front (part_not h1 no61), cut1_hit]
  simp [nameF_of h1 hn, h2]
theorem query_end (P : List (List UInt8)) (Q : List Pm) {a b n v : List UInt8} (h1 : partF a = some n) (hn : n ≠ []) (h2 : partF b = some v) : contQ P Q (a ++ 61 :: b) = finF P (Q ++ [(n, v)]) := by
  have h38 : (38 : UInt8) ∉ a ++ 61 :: b := by
    have := part_not h1 no38
    have := part_not h2 no38
    simp [*]
  unfold contQ queryF
  rw [split1_none h38]
  simp [mapP, parF_of h1 hn h2]
theorem query_step (P : List (List UInt8)) (Q : List Pm) {a b n v : List UInt8} (h1 : partF a = some n) (hn : n ≠ []) (h2 : partF b = some v) (t : List UInt8) : contQ P Q (a ++ 61 :: b ++ 38 :: t) = contQ P (Q ++ [(n, v)]) t := by
  have h38 : (38 : UInt8) ∉ a ++ 61 :: b := by
    have := part_not h1 no38
    have := part_not h2 no38
    simp [*]
  unfold contQ queryF
  rw [split1_front h38, mapP, parF_of h1 hn h2]
  cases mapP parF (split1 38 t) with
  | none => rfl
  | some R => simp
theorem query_some {l : List UInt8} (h : queryF l ≠ none) : ∃ n l2 v r, n ≠ [] ∧ rpartF l = some (n, 61 :: l2) ∧ rpartF l2 = some (v, r) ∧ (r = [] ∨ ∃ t, r = 38 :: t) := by
  unfold queryF at h
  obtain ⟨ps, hps⟩ := split1_head 38 l
  rw [hps, mapP] at h
  cases hp : parF (cut1 38 l).1 with
  | none => rw [hp] at h; exact absurd rfl h
  | some q =>
    obtain ⟨r, e, hr⟩ := cut1_pre 38 l
    generalize (cut1 38 l).1 = q0 at hp e
    unfold parF at hp
    split at hp
    · rename_i hf
      obtain ⟨n, hn, hp⟩ := Option.bind_eq_some_iff.1 hp
      obtain ⟨v, hv, _⟩ := Option.map_eq_some_iff.1 hp
      obtain ⟨n1, n2⟩ := nameF_some hn
      have e2 := cut1_app 61 q0 hf
      generalize (cut1 61 q0).1 = a at *
      generalize (cut1 61 q0).2.1 = b at *
      have hre : endL r := by
        rcases hr with rfl | ⟨t, rfl⟩
        · exact endL_nil
        · exact endL_cons _ stop38
      refine ⟨n, b ++ r, v, r, n2, ?_, part_goes hv hre, hr⟩
      have := part_goes n1 (endL_cons (b ++ r) stop61)
      rw [e, e2]
      simpa using this
    · cases hp
theorem query_bad (P : List (List UInt8)) (Q : List Pm) {l : List UInt8} (h : ∀ n l2 v r, n ≠ [] → rpartF l = some (n, 61 :: l2) → rpartF l2 = some (v, r) → (r = [] ∨ ∃ t, r = 38 :: t) → False) : contQ P Q l = ([], [], 4) := by
  unfold contQ
  cases hq : queryF l with
  | none => rfl
  | some R =>
    obtain ⟨n, l2, v, r, h1, h2, h3, h4⟩ := query_some (some_ne hq)
    exact absurd (h n l2 v r h1 h2 h3 h4) id
/-- The step, in the words of the document's way. -/
theorem query_go (P : List (List UInt8)) (Q : List Pm) {l n l2 v r : List UInt8} (hn : n ≠ []) (h1 : rpartF l = some (n, 61 :: l2)) (h2 : rpartF l2 = some (v, r)) :
    (r = [] → contQ P Q l = finF P (Q ++ [(n, v)])) ∧ ∀ t, r = 38 :: t → contQ P Q l = contQ P (Q ++ [(n, v)]) t := by
  obtain ⟨a, rfl, ha, _⟩ := rpart_some _ l n _ (Nat.le_refl _) h1
  obtain ⟨b, rfl, hb, _⟩ := rpart_some _ l2 v r (Nat.le_refl _) h2
  refine ⟨fun e => ?_, fun t e => ?_⟩
  · subst e
    rw [List.append_nil]
    exact query_end P Q ha hn hb
  · subst e
    have := query_step P Q ha hn hb t
    simpa using this
theorem path_go (P : List (List UInt8)) {l o r : List UInt8} (ho : o ≠ []) (h : rpartF l = some (o, r)) : contP P (47 :: l) = contP (P ++ [o]) r := by
  obtain ⟨a, rfl, ha, hr⟩ := rpart_some _ l o r (Nat.le_refl _) h
  exact cont_step P ha ho hr
theorem good_of {l o r : List UInt8} (ho : o ≠ []) (h : rpartF l = some (o, r)) : GoodP o := by
  obtain ⟨a, rfl, ha, hr⟩ := rpart_some _ l o r (Nat.le_refl _) h
  exact ⟨ho, part_none ha⟩
theorem fin_path {P : List (List UInt8)} (h : ∀ p ∈ P, GoodP p) : finF P [] = (P, [], 0) := by
  unfold finF
  rw [mayF_yes ⟨h, fun k q hq => by simp at hq⟩]
  rfl
theorem rpart_len {l o r : List UInt8} (h : rpartF l = some (o, r)) : r.length ≤ l.length ∧ o.length ≤ l.length := by
  obtain ⟨a, rfl, ha, hr⟩ := rpart_some _ l o r (Nat.le_refl _) h
  have := part_le ha
  simp
  omega

/-! ### printed -/
def hexU (d : Nat) : UInt8 := UInt8.ofNat (if d < 10 then 48 + d else 55 + d)
def escB (x : UInt8) : List UInt8 := if plB x then [x] else [37, hexU (x.toNat / 16), hexU (x.toNat % 16)]
def escL (s : List UInt8) : List UInt8 := s.flatMap escB
def printQ : UInt8 → List Pm → List UInt8
  | _, [] => []
  | m, q :: Q => m :: (escL q.1 ++ 61 :: (escL q.2 ++ printQ 38 Q))
def printP (P : List (List UInt8)) : List UInt8 := P.flatMap fun p => 47 :: escL p
def rootP (P : List (List UInt8)) : List UInt8 := if P = [] then [47] else printP P
def printF (P : List (List UInt8)) (Q : List Pm) : List UInt8 := rootP P ++ printQ 63 Q
def chkU (x : UInt8) : Bool := plB x || x == 0 || escV (hexU (x.toNat / 16)) (hexU (x.toNat % 16)) == some x
theorem chkU_fin : ∀ c : Fin 256, chkU (UInt8.ofNat c.1) = true := by decide +kernel
theorem esc_back {x : UInt8} (h0 : x ≠ 0) (hp : plB x = false) : escV (hexU (x.toNat / 16)) (hexU (x.toNat % 16)) = some x := by
  have := chkU_fin ⟨x.toNat, x.toNat_lt⟩
  have e : UInt8.ofNat x.toNat = x := by simp
  dsimp only at this
  rw [e] at this
  simpa [chkU, hp, h0] using this
theorem part_escL : ∀ (p : List UInt8), (0 : UInt8) ∉ p → partF (escL p) = some p
  | [], _ => rfl
  | x :: p, h => by
    have ih := part_escL p (fun hm => h (by simp [hm]))
    have e : escL (x :: p) = escB x ++ escL p := rfl
    rw [e]
    unfold escB
    cases hx : plB x
    · rw [if_neg (by exact Bool.false_ne_true)]
      show partF (37 :: _ :: _ :: escL p) = _
      rw [partF_esc, esc_back (fun e => h (by simp [e])) hx, ih]
      rfl
    · rw [if_pos rfl]
      show partF (x :: escL p) = _
      rw [partF_pl hx, ih]
      rfl
theorem escL_app (a b : List UInt8) : escL (a ++ b) = escL a ++ escL b := by simp [escL]
theorem escL_len : ∀ p : List UInt8, (escL p).length ≤ 3 * p.length
  | [] => Nat.le_refl _
  | x :: p => by
    have ih := escL_len p
    have e : escL (x :: p) = escB x ++ escL p := rfl
    rw [e, List.length_append, List.length_cons]
    have : (escB x).length ≤ 3 := by
      unfold escB
      split <;> simp
    omega
theorem printQ_end (m : UInt8) (hm : stopB m) (Q : List Pm) : endL (printQ m Q) := by
  cases Q with
  | nil => exact endL_nil
  | cons q Q => exact endL_cons _ hm
theorem cont_print : ∀ (P : List (List UInt8)) (P0 : List (List UInt8)) (rest : List UInt8), (∀ p ∈ P, GoodP p) → endL rest → contP P0 (printP P ++ rest) = contP (P0 ++ P) rest
  | [], P0, rest, _, _ => by simp [printP]
  | p :: P, P0, rest, h, hr => by
    have hp := h p (by simp)
    have e : printP (p :: P) ++ rest = 47 :: (escL p ++ (printP P ++ rest)) := by simp [printP]
    have hr2 : endL (printP P ++ rest) := by
      cases P with
      | nil => simpa [printP] using hr
      | cons p2 P => exact endL_cons _ stop47
    rw [e, cont_step P0 (part_escL p hp.2) hp.1 hr2, cont_print P _ rest (fun q hq => h q (by simp [hq])) hr]
    simp
theorem queryQ_print : ∀ (Q : List Pm) (P : List (List UInt8)) (Q0 : List Pm) (q : Pm), (∀ p ∈ q :: Q, GoodP p.1 ∧ (0 : UInt8) ∉ p.2) → contQ P Q0 (escL q.1 ++ 61 :: (escL q.2 ++ printQ 38 Q)) = finF P (Q0 ++ q :: Q)
  | [], P, Q0, q, h => by
    obtain ⟨⟨h1, h2⟩, h3⟩ := h q (by simp)
    rw [printQ, List.append_nil]
    exact query_end P Q0 (part_escL _ h2) h1 (part_escL _ h3)
  | q2 :: Q, P, Q0, q, h => by
    obtain ⟨⟨h1, h2⟩, h3⟩ := h q (by simp)
    have := query_step P Q0 (part_escL _ h2) h1 (part_escL _ h3) (escL q2.1 ++ 61 :: (escL q2.2 ++ printQ 38 Q))
    rw [printQ]
    have e : escL q.1 ++ 61 :: (escL q.2 ++ 38 :: (escL q2.1 ++ 61 :: (escL q2.2 ++ printQ 38 Q))) = escL q.1 ++ 61 :: escL q.2 ++ 38 :: (escL q2.1 ++ 61 :: (escL q2.2 ++ printQ 38 Q)) := by simp
    rw [e, this, queryQ_print Q P _ q2 (fun p hp => h p (by simp [hp]))]
    simp
theorem goodQ_of {Q : List Pm} (h : ∀ k, GoodQ Q k) : ∀ p ∈ Q, GoodP p.1 ∧ (0 : UInt8) ∉ p.2 := by
  intro p hp
  obtain ⟨k, hk⟩ := List.mem_iff_getElem?.1 hp
  obtain ⟨h1, h2, h3, _⟩ := h k p hk
  exact ⟨⟨h1, h2⟩, h3⟩
theorem escL_head {p : List UInt8} (h : p ≠ []) : ∃ x t, escL p = x :: t ∧ x ≠ 63 := by
  match p, h with
  | x :: p, _ =>
    have e : escL (x :: p) = escB x ++ escL p := rfl
    rw [e]
    unfold escB
    cases hx : plB x
    · exact ⟨37, _, rfl, by decide⟩
    · refine ⟨x, _, rfl, ?_⟩
      rintro rfl
      revert hx
      decide
/-- What is printed is read forwards from its path's front on. -/
theorem parse_rootP {P : List (List UInt8)} (h : ∀ p ∈ P, GoodP p) {rest : List UInt8} (hr : rest = [] ∨ ∃ t, rest = 63 :: t) : parseF (rootP P ++ rest) = contP P rest := by
  have hre : endL rest := by
    rcases hr with rfl | ⟨t, rfl⟩
    · exact endL_nil
    · exact endL_cons _ stop63
  cases P with
  | nil =>
    rcases hr with rfl | ⟨t, rfl⟩
    · exact parse_root
    · exact parse_rootQ t
  | cons p P =>
    have hp := h p (by simp)
    obtain ⟨x, t, e, hx⟩ := escL_head hp.1
    have e1 : rootP (p :: P) ++ rest = 47 :: x :: (t ++ (printP P ++ rest)) := by
      simp [rootP, printP, e]
    have e2 : printP (p :: P) ++ rest = 47 :: x :: (t ++ (printP P ++ rest)) := by
      simp [printP, e]
    rw [e1, parse_path _ hx, ← e2, cont_print (p :: P) [] rest h hre]
    rfl
theorem parse_print {P : List (List UInt8)} {Q : List Pm} (h : mayF P Q = true) : parseF (printF P Q) = (P, Q, 0) := by
  obtain ⟨h1, h2⟩ := mayF_iff.1 h
  have hf : finF P Q = (P, Q, 0) := by
    unfold finF
    rw [h]
    rfl
  unfold printF
  cases Q with
  | nil =>
    rw [printQ, parse_rootP h1 (.inl rfl), cont_nil]
    exact hf
  | cons q Q =>
    rw [printQ, parse_rootP h1 (.inr ⟨_, rfl⟩), cont_query, queryQ_print Q P [] q (goodQ_of h2)]
    exact hf

end Go.Proofs.YtaopohacelmglaaDoor.Tg

/-
  Strings and bytes: []byte(s) as a step of a walk; a block known whole, stored whole; operations that are guarded.
-/
namespace Go.Proofs.YtaopohacelmglaaDoor
open Go.RowKit

theorem Rd.drop_ {w : World} {A : Option Addr} {n c : Nat} {l : List UInt8} (h : Rd w 1 A n c (l.map b8)) {k : Nat} (hk : k ≤ n) : Rd w 1 (cutA A c k 1) (n - k) (c - k) ((l.drop k).map b8) := by
  have h1 := h.cut (lo := k) (hi := n) hk (Nat.le_refl _)
  rw [Nat.mul_one, Nat.mul_one, ← List.map_drop, List.take_of_length_le (by have := h.lenb; simp; omega)] at h1
  exact h1
theorem Rd.take_ {w : World} {A : Option Addr} {n c : Nat} {l : List UInt8} (h : Rd w 1 A n c (l.map b8)) {k : Nat} (hk : k ≤ n) : Rd w 1 A k c ((l.take k).map b8) := by
  have := h.lenb
  refine ⟨by simp; omega, Nat.le_trans hk h.le, h.max, h.nil, fun j u hu => h.cell j u ?_⟩
  rw [List.map_take, List.getElem?_take] at hu
  split at hu
  · exact hu
  · cases hu

section
variable {P : Program} {w : World} {e src dst : TypeId}
variable {ops : Array Oper} {rest : List Oper} {o : Oper} {a : Act} {Q : Exit → Act → World → Prop}

theorem grownCap_ge' (w : World) (n : Nat) (e : TypeId) : n ≤ grownCap w n 0 e := grownCap_ge w n 0 e
theorem bytesWorld_below (w : World) (e : TypeId) (s : ByteArray) : Below w.heap.size w (Lib.bytesWorld w e s) :=
  ⟨rfl, rfl, rfl, by rw [Lib.bytesWorld_size]; omega, fun k hk => Lib.bytesWorld_at_old w e s k hk⟩
theorem bytesWorld_own (w : World) (e : TypeId) (s : ByteArray) (hs : s.size ≤ 1073741824) : Own (Lib.bytesWorld w e s) w.heap.size e 1 (some ⟨w.heap.size, 0, none⟩) s.size (grownCap w s.size 0 e) (s.data.toList.map b8) := by
  have hge := grownCap_ge w s.size 0 e
  have hnew := Lib.bytesWorld_at_new w e s
  have hsz : (Lib.bytesCells w e s).size = grownCap w s.size 0 e := by
    have : s.data.size = s.size := rfl
    simp only [Lib.bytesCells, Array.size_append, Array.size_map, Array.size_replicate, this]
    omega
  have hm : grownCap w s.size 0 e ≤ maxLen := grownCap_le_maxLen w s.size 0 e (by unfold maxLen; omega)
  refine ⟨⟨by simp, hge, hm, (fun h => by cases h), fun j u hu => ?_⟩, fun a ha => ?_⟩
  · rw [at_some]
    have e1 : (⟨w.heap.size, 0, none⟩ : Addr).add j = ⟨w.heap.size, j, none⟩ := by unfold Addr.add; split <;> simp_all
    have hj : j < s.size := by
      have := (List.getElem?_eq_some_iff.1 hu).1
      simpa using this
    rw [e1, Lib.bytesWorld_cell w e s j hj]
    rw [List.getElem?_map] at hu
    have hjl : j < s.data.toList.length := by simpa using hj
    rw [List.getElem?_eq_getElem hjl] at hu
    simp only [Option.map_some, Option.some.injEq] at hu
    subst hu
    simp only [List.getD, List.getElem?_eq_getElem hjl, Option.getD_some]
    rfl
  · obtain rfl := Option.some.inj ha
    exact ⟨rfl, Nat.le_refl _, _, _, hnew, by simp only [hsz]; omega, fun j _ hj => by
      dsimp only at hj
      simp only [hsz]
      omega⟩

/-- []byte(s). -/
theorem wpList_s2b (hgd : o.guard = none) (x : Operand) (ho : o.op = .convert src dst x) (hs : P.underlying src = some .string) (hd : P.underlying dst = some (.slice e)) (he : P.underlying e = some (.int .u8))
    (s : ByteArray) (hx : a.eval x = .string s) (hsz : s.size ≤ 1073741824)
    (k : ∀ c' w', Own w' w.heap.size e 1 (some ⟨w.heap.size, 0, none⟩) s.size c' (s.data.toList.map b8) → Below w.heap.size w w' → wpList P ops Q rest (a.put o.dst (.slice (some ⟨w.heap.size, 0, none⟩) s.size c')) w') :
    wpList P ops Q (o :: rest) a w := by
  refine wpList_plain hgd fun K hK => ?_
  have hrun := Lib.run_convert_string_bytes w src dst e s hs hd he
  unfold Oper.wp execOp
  simp only [ho, hx, hrun, Sem.run_bind, Result.andThen_ok, Sem.run_pure]
  exact hK _ _ (k _ _ (bytesWorld_own w e s hsz) (bytesWorld_below w e s))

/-- An operation that is reached, guarded or not. -/
theorem wpList_taken (hw : Region.wanted o (yielded ops a.tmps) = true)
    (h : ∀ K : Act → World → Prop, (∀ a w, wpList P ops Q rest a w → K a w) → o.wp P a w K Q) : wpList P ops Q (o :: rest) a w :=
  wpList_step fun K hK => by simp only [hw, if_true]; exact h K hK
/-- A block known whole, loaded. -/
theorem wpList_load_all (hw : Region.wanted o (yielded ops a.tmps) = true) (ty : TypeId) (x : Operand) (ho : o.op = .load ty x)
    (g : Nat) (hx : a.eval x = .pointer (some ⟨g, 0, none⟩)) (t : TypeId) (cs : Array Value) (fr : Nat × Nat) (d : TypeDesc) (hg : w.heap[g]? = some (.cells cs t fr))
    (hu : P.underlying ty = some d) (hd : (match d with | .struct _ | .array _ _ => true | _ => false) = true) (hi : (P.info? ty).map (·.size) = some cs.size)
    (h : wpList P ops Q rest (a.put o.dst (.agg cs)) w) : wpList P ops Q (o :: rest) a w :=
  wpList_taken hw fun _ hK => wp_load_row ty x ho g hx t cs fr d hg hu hd hi (hK _ _ h)

theorem sizeOf_run {P : Program} {ty : TypeId} {n : Nat} (hi : (P.info? ty).map (·.size) = some n) (W : World) : (sizeOf ty).run P W = .ok n W := by
  cases h : P.info? ty with
  | none => simp [h] at hi
  | some i =>
    simp [h] at hi
    simp [sizeOf, typeInfo, h, hi]
/-- A whole value stored over a block of its size. -/
theorem run_storeVar_all {ty t : TypeId} {g : Nat} {cs vs : Array Value} (hg : w.heap[g]? = some (.cells cs t (0, 0))) (hi : (P.info? ty).map (·.size) = some vs.size) (hs : cs.size = vs.size) (h1 : ∀ v ∈ vs.toList, v.oneCell' = true) :
    (storeVar ty ⟨g, 0, none⟩ (.agg vs)).run P w = .ok () (w.setRow g vs) := by
  have h := run_storeCells_fr P g 0 t (0, 0) vs.toList 0 cs w hg (by simp [hs]) (fun j _ _ => by omega) h1
  have e : (cs.toList.take (0 + 0) ++ vs.toList ++ cs.toList.drop (0 + 0 + vs.toList.length)).toArray = vs := by
    have : cs.toList.drop vs.size = [] := List.drop_eq_nil_of_le (by simp [hs])
    simp [this]
  rw [e] at h
  simp only [storeVar, Sem.run_bind, sizeOf_run hi, Result.andThen_ok, Value.cells, ne_eq, not_true_eq_false, if_false, h]
theorem wpList_store_all (hw : Region.wanted o (yielded ops a.tmps) = true) (ty : TypeId) (x y : Operand) (ho : o.op = .store ty x y) (g : Nat) (hx : a.eval x = .pointer (some ⟨g, 0, none⟩)) (t : TypeId) (cs vs : Array Value) (hy : a.eval y = .agg vs) (hg : w.heap[g]? = some (.cells cs t (0, 0)))
    (hi : (P.info? ty).map (·.size) = some vs.size) (hs : cs.size = vs.size) (h1 : ∀ v ∈ vs.toList, v.oneCell' = true)
    (k : ∀ w', w'.heap[g]? = some (.cells vs t (0, 0)) → w.grownBy w' (some g) → w'.heap.size = w.heap.size → wpList P ops Q rest (a.put o.dst undef) w') : wpList P ops Q (o :: rest) a w := by
  refine wpList_taken hw fun K hK => ?_
  have hrun := run_storeVar_all (P := P) (ty := ty) hg hi hs h1
  unfold Oper.wp execOp
  simp only [ho, hx, hy, Instr.storeAt, Instr.sureAddr, Sem.run_bind, Sem.run_pure, Result.andThen_ok, hrun]
  exact hK _ _ (k _ (setRow_heap w g cs vs t (0, 0) hg) ⟨rfl, rfl, rfl, by simp, fun q _ hq => setRow_other w g q _ (fun e => hq (by rw [e]))⟩ (by simp))
theorem wp_store_all {K : Act → World → Prop} (ty : TypeId) (x y : Operand) (ho : o.op = .store ty x y) (g : Nat) (hx : a.eval x = .pointer (some ⟨g, 0, none⟩)) (t : TypeId) (cs vs : Array Value) (hy : a.eval y = .agg vs) (hg : w.heap[g]? = some (.cells cs t (0, 0)))
    (hi : (P.info? ty).map (·.size) = some vs.size) (hs : cs.size = vs.size) (h1 : ∀ v ∈ vs.toList, v.oneCell' = true)
    (k : ∀ w', w'.heap[g]? = some (.cells vs t (0, 0)) → w.grownBy w' (some g) → w'.heap.size = w.heap.size → K (a.put o.dst undef) w') : o.wp P a w K Q := by
  have hrun := run_storeVar_all (P := P) (ty := ty) hg hi hs h1
  unfold Oper.wp execOp
  simp only [ho, hx, hy, Instr.storeAt, Instr.sureAddr, Sem.run_bind, Sem.run_pure, Result.andThen_ok, hrun]
  exact k _ (setRow_heap w g cs vs t (0, 0) hg) ⟨rfl, rfl, rfl, by simp, fun q _ hq => setRow_other w g q _ (fun e => hq (by rw [e]))⟩ (by simp)
theorem wp_alloc_zero {K : Act → World → Prop} (ty : TypeId) (ho : o.op = .alloc ty) (z : Array Value) (hz : (P.info? ty).map (·.zero) = some (some (.agg z)))
    (k : ∀ w', w'.heap[w.heap.size]? = some (.cells z ty (0, 0)) → Below w.heap.size w w' → w'.heap.size = w.heap.size + 1 → K (a.put o.dst (.pointer (some ⟨w.heap.size, 0, none⟩))) w') : o.wp P a w K Q := by
  have hrun : (Instr.alloc ty true (.tuple #[])).run P w = .ok (.pointer (some ⟨w.heap.size, 0, none⟩)) (w.alloc (.cells z ty)) := by
    cases h : P.info? ty with
    | none => simp [h] at hz
    | some i =>
      simp [h] at hz
      simp [Instr.alloc, zeroValue, typeInfo, h, hz, newVar, newRow, Value.cells]
  unfold Oper.wp execOp
  simp only [ho, Sem.run_bind, Sem.run_pure, Result.andThen_ok, hrun]
  exact k _ (by show (w.heap.push _)[w.heap.size]? = _; simp) ((Below.refl _ _).alloc (Nat.le_refl _) _) (by simp)
/-- A new variable of a kind whose zero value is known. -/
theorem wpList_alloc_zero (hw : Region.wanted o (yielded ops a.tmps) = true) (ty : TypeId) (ho : o.op = .alloc ty) (z : Array Value) (hz : (P.info? ty).map (·.zero) = some (some (.agg z)))
    (k : ∀ w', w'.heap[w.heap.size]? = some (.cells z ty (0, 0)) → Below w.heap.size w w' → w'.heap.size = w.heap.size + 1 → wpList P ops Q rest (a.put o.dst (.pointer (some ⟨w.heap.size, 0, none⟩))) w') : wpList P ops Q (o :: rest) a w := by
  refine wpList_taken hw fun K hK => ?_
  have hrun : (Instr.alloc ty true (.tuple #[])).run P w = .ok (.pointer (some ⟨w.heap.size, 0, none⟩)) (w.alloc (.cells z ty)) := by
    cases h : P.info? ty with
    | none => simp [h] at hz
    | some i =>
      simp [h] at hz
      simp [Instr.alloc, zeroValue, typeInfo, h, hz, newVar, newRow, Value.cells]
  unfold Oper.wp execOp
  simp only [ho, Sem.run_bind, Sem.run_pure, Result.andThen_ok, hrun]
  exact hK _ _ (k _ (by show (w.heap.push _)[w.heap.size]? = _; simp) ((Below.refl _ _).alloc (Nat.le_refl _) _) (by simp))
theorem wpList_box (hw : Region.wanted o (yielded ops a.tmps) = true) (ty : TypeId) (x : Operand) (ho : o.op = .box ty x) (cs : Array Value) (hx : a.eval x = .agg cs)
    (k : ∀ w', w'.heap[w.heap.size]? = some (.cells cs ty (0, 0)) → Below w.heap.size w w' → w'.heap.size = w.heap.size + 1 → wpList P ops Q rest (a.put o.dst (.pointer (some ⟨w.heap.size, 0, none⟩))) w') : wpList P ops Q (o :: rest) a w := by
  refine wpList_taken hw fun K hK => ?_
  have hrun : (Instr.box ty (.agg cs)).run P w = .ok (.pointer (some ⟨w.heap.size, 0, none⟩)) (w.alloc (.cells cs ty)) := by simp [Instr.box, newVar, newRow, Value.cells]
  unfold Oper.wp execOp
  simp only [ho, hx, Sem.run_bind, Sem.run_pure, Result.andThen_ok, hrun]
  exact hK _ _ (k _ (by show (w.heap.push _)[w.heap.size]? = _; simp) ((Below.refl _ _).alloc (Nat.le_refl _) _) (by simp))
/-- A load, a build, whose run is known. -/
theorem wpList_load_run (hw : Region.wanted o (yielded ops a.tmps) = true) (ty : TypeId) (x : Operand) (ho : o.op = .load ty x) (ad : Addr) (hx : a.eval x = .pointer (some ad)) (v : Value) (hrun : (loadVar ty ad).run P w = .ok v w)
    (k : wpList P ops Q rest (a.put o.dst v) w) : wpList P ops Q (o :: rest) a w := by
  refine wpList_taken hw fun K hK => ?_
  unfold Oper.wp execOp
  simp only [ho, hx, Instr.loadAt, Instr.sureAddr, Sem.run_bind, Sem.run_pure, Result.andThen_ok, hrun]
  exact hK _ _ k
theorem wpList_build_run (hw : Region.wanted o (yielded ops a.tmps) = true) (ty : TypeId) (parts : Array (Nat × Operand)) (ho : o.op = .build ty parts) (vs : Array (Nat × Value)) (hx : (parts.map fun (i, x) => (i, a.eval x)) = vs) (v : Value) (hrun : (Instr.build ty vs).run P w = .ok v w)
    (k : wpList P ops Q rest (a.put o.dst v) w) : wpList P ops Q (o :: rest) a w := by
  refine wpList_taken hw fun K hK => ?_
  unfold Oper.wp execOp
  simp only [ho, hx, Sem.run_bind, Sem.run_pure, Result.andThen_ok, hrun]
  exact hK _ _ k
/-- An array of one-cell elements, loaded out of a row. -/
theorem run_loadVar_arr {ty e : TypeId} {n c : Nat} {ad : Addr} {xs : List Value} (hu : P.underlying ty = some (.array n e)) (hi : (P.info? ty).map (·.size) = some n) (h : Rd w 1 (some ad) n c xs) : (loadVar ty ad).run P w = .ok (.agg xs.toArray) w := by
  have hl := run_loadCells_list (P := P) w ad xs (fun j v hv => by have := h.cell j v hv; rwa [at_some] at this)
  have hxn : xs.length = n := by simpa using h.len
  rw [hxn] at hl
  simp [loadVar, isAgg, run_underlying hu, sizeOf_run hi, hl]
end

end Go.Proofs.YtaopohacelmglaaDoor

/-
  The library's Cut and Split in plain words.
-/
namespace Go.Proofs.YtaopohacelmglaaDoor
open Go.RowKit

/-- The library's variable holds some integer. -/
def Mx (w : World) : Prop := ∃ m, w.cell? ⟨0, 0, none⟩ = some (.int .i64 m)
theorem Mx.below {w w' : World} (h : Mx w) (hb : Below w.heap.size w w') : Mx w' := by
  obtain ⟨m, hm⟩ := h
  have hlt := World.block_lt_of_cell? w _ hm
  exact ⟨m, by rw [← hm]; exact World.cell?_of_block (hb.block 0 hlt)⟩
theorem Cut_any (c : UInt8) (s : List UInt8) (hs : s.length < 4294967281) (w : World) (hm : Mx w) :
    Calls Tryd.prog 34 #[.string ⟨s.toArray⟩, .string ⟨#[c]⟩] w fun e w' => e = .returned (.tuple #[.string ⟨(cut1 c s).1.toArray⟩, .string ⟨(cut1 c s).2.1.toArray⟩, .bool (cut1 c s).2.2]) ∧ Below w.heap.size w w' := by
  obtain ⟨m, hm⟩ := hm
  refine (Tryd.strings_Cut ⟨s.toArray⟩ ⟨#[c]⟩ m w (by rw [size_mk]; exact hs) hm).mono ?_
  rintro e w' ⟨rfl, q, rfl⟩
  refine ⟨?_, below_drewN (Below.refl _ _) q⟩
  have e1 : Lib.cut (⟨s.toArray⟩ : ByteArray).data.toList (⟨#[c]⟩ : ByteArray).data.toList = cut1 c s := cut_one c s
  rw [e1]
theorem Split_any (c : UInt8) (s : List UInt8) (hs : s.length < 4294967281) (w : World) (hm : Mx w) :
    Calls Tryd.prog 58 #[.string ⟨s.toArray⟩, .string ⟨#[c]⟩] w fun e w' => e = .returned (.slice (some ⟨w.heap.size, 0, none⟩) (split1 c s).length (split1 c s).length) ∧ w' = w.alloc (.cells ((split1 c s).map fun p => Value.string ⟨p.toArray⟩).toArray 9) := by
  obtain ⟨m, hm⟩ := hm
  refine (Tryd.strings_Split ⟨s.toArray⟩ ⟨#[c]⟩ m w (by rw [size_mk]; exact hs) hm (show 1 ≤ (⟨#[c]⟩ : ByteArray).size from Nat.le_refl 1)).mono ?_
  rintro e w' ⟨rfl, rfl⟩
  have h1 : (Lib.splitB ⟨#[c]⟩ 0 (Lib.countB ⟨s.toArray⟩ ⟨#[c]⟩) ⟨s.toArray⟩).map (·.data.toList) = split1 c s := by
    rw [Lib.splitB_data]
    exact splitK_one c _ s rfl
  have h2 : (Lib.splitB ⟨#[c]⟩ 0 (Lib.countB ⟨s.toArray⟩ ⟨#[c]⟩) ⟨s.toArray⟩).length = Lib.countB ⟨s.toArray⟩ ⟨#[c]⟩ + 1 := Lib.splitB_all _ (show 1 ≤ (⟨#[c]⟩ : ByteArray).size from Nat.le_refl 1) 0 _ _ rfl
  have h3 : (split1 c s).length = Lib.countB ⟨s.toArray⟩ ⟨#[c]⟩ + 1 := by rw [← h1, List.length_map, h2]
  have h4 : (Lib.splitB ⟨#[c]⟩ 0 (Lib.countB ⟨s.toArray⟩ ⟨#[c]⟩) ⟨s.toArray⟩).map Value.string = (split1 c s).map fun p => Value.string ⟨p.toArray⟩ := by
    rw [← h1, List.map_map]
    rfl
  rw [h3, h4]
  exact ⟨rfl, rfl⟩

end Go.Proofs.YtaopohacelmglaaDoor

/-
  Package target: rows of strings, rows of parameters, targets as values.
-/
namespace Go.Proofs.YtaopohacelmglaaDoor.Tg
open Go.RowKit

def strV (l : List UInt8) : Value := .string ⟨l.toArray⟩
theorem strV_one (l : List (List UInt8)) : ∀ u ∈ l.map strV, u.oneCell' = true := by
  intro u hu
  obtain ⟨_, _, rfl⟩ := List.mem_map.1 hu
  rfl
theorem es : ElemT Tryd.prog 39 9 (.string ByteArray.empty) 1 16 := ElemT.of Tryd.underlying39 (by kernel_rfl) rfl (by omega)
theorem split1_le (c : UInt8) : ∀ l, (split1 c l).length ≤ l.length + 1 ∧ ∀ p ∈ split1 c l, p.length ≤ l.length
  | [] => ⟨by simp [split1], fun p hp => by simp [split1] at hp; simp [hp]⟩
  | x :: l => by
    obtain ⟨h1, h2⟩ := split1_le c l
    rw [split1]
    split
    · refine ⟨by simpa using h1, fun p hp => ?_⟩
      rcases List.mem_cons.1 hp with rfl | hp
      · simp
      · have := h2 p hp
        simp
        omega
    · split
      · rename_i q ps hq
        rw [hq] at h1 h2
        refine ⟨by simp at h1 ⊢; omega, fun p hp => ?_⟩
        rcases List.mem_cons.1 hp with rfl | hp
        · have := h2 q (by simp)
          simpa using this
        · have := h2 p (by simp [hp])
          simp
          omega
      · refine ⟨by simp, fun p hp => ?_⟩
        obtain rfl : p = [x] := by simpa using hp
        simp

/-! ### parameters -/
def prA (a b : List UInt8) : Array Value := #[strV a, strV b]
def prL : List Pm → List Value
  | [] => []
  | f :: fs => strV f.1 :: strV f.2 :: prL fs
theorem prL_len : ∀ fs, (prL fs).length = fs.length * 2
  | [] => rfl
  | f :: fs => by
    have := prL_len fs
    simp only [prL, List.length_cons, this]
    omega
theorem prL_app : ∀ a b : List Pm, prL (a ++ b) = prL a ++ prL b
  | [], b => rfl
  | f :: a, b => by simp only [List.cons_append, prL, prL_app a b]
theorem prL_at : ∀ (fs : List Pm) (k : Nat) (f : Pm), fs[k]? = some f → (prL fs)[k * 2]? = some (strV f.1) ∧ (prL fs)[k * 2 + 1]? = some (strV f.2)
  | [], k, f, h => by simp at h
  | g :: fs, 0, f, h => by
    obtain rfl : g = f := by simpa using h
    exact ⟨rfl, rfl⟩
  | g :: fs, k + 1, f, h => by
    have := prL_at fs k f (by simpa using h)
    rw [show (k + 1) * 2 = k * 2 + 1 + 1 by omega]
    exact this
theorem prL_one : ∀ (l : List Pm), ∀ u ∈ prL l, u.oneCell' = true
  | [], u, hu => by cases hu
  | f :: l, u, hu => by
    rcases List.mem_cons.1 hu with rfl | hu
    · rfl
    · rcases List.mem_cons.1 hu with rfl | hu
      · rfl
      · exact prL_one l u hu
theorem ep : ElemT Tryd.prog 49 91 (.agg (prA [] [])) 2 32 := ElemT.of Tryd.underlying49 (by kernel_rfl) rfl (by omega)
theorem size_pr (a b : List UInt8) : (Tryd.prog.info? 91).map (·.size) = some (prA a b).size := by
  rw [show (prA a b).size = 2 from rfl]
  kernel_rfl
theorem zero_pr : (Tryd.prog.info? 91).map (·.zero) = some (some (.agg (prA [] []))) := by kernel_rfl
theorem pr_one (a b : List UInt8) : ∀ v ∈ (prA a b).toList, v.oneCell' = true := by
  intro v hv
  simp [prA] at hv
  rcases hv with rfl | rfl <;> rfl
/-- A slice of strings, read; a slice of parameters, read. -/
abbrev Ss (w : World) (A : Option Addr) (n c : Nat) (l : List (List UInt8)) : Prop := Rd w 1 A n c (l.map strV)
def Ps (w : World) (A : Option Addr) (n c : Nat) (l : List Pm) : Prop := Rd w 2 A n c (prL l)
section
variable {w w' : World} {A : Option Addr} {n c : Nat} {fs : List Pm}
theorem Ps.len (h : Ps w A n c fs) : fs.length = n := by
  have := Rd.len h
  rw [prL_len] at this
  omega
theorem Ps.below (h : Ps w A n c fs) (hb : Below w.heap.size w w') : Ps w' A n c fs := Rd.below h hb
theorem Ps.name (h : Ps w A n c fs) {k : Nat} {f : Pm} (hx : fs[k]? = some f) : w.cell? (at_ A (k * 2)) = some (strV f.1) := Rd.cell h _ _ (prL_at fs k f hx).1
theorem Ps.value (h : Ps w A n c fs) {k : Nat} {f : Pm} (hx : fs[k]? = some f) : w.cell? (at_ A (k * 2 + 1)) = some (strV f.2) := Rd.cell h _ _ (prL_at fs k f hx).2
theorem at_add2 (A : Option Addr) (m j : Nat) : (at_ A m).add j = at_ A (m + j) := by
  unfold at_
  exact add_of_add _ _ _
theorem Ps.load (h : Ps w A n c fs) {k : Nat} {f : Pm} (hx : fs[k]? = some f) : (loadVar 91 (at_ A (k * 2))).run Tryd.prog w = .ok (.agg (prA f.1 f.2)) w := by
  have hl := run_loadCells_list (P := Tryd.prog) w (at_ A (k * 2)) [strV f.1, strV f.2] (fun j v hv => by
    rw [at_add2]
    match j, hv with
    | 0, hv => obtain rfl := Option.some.inj hv; exact h.name hx
    | 1, hv => obtain rfl := Option.some.inj hv; exact h.value hx)
  have e : [strV f.1, strV f.2].length = 2 := rfl
  rw [e] at hl
  simp [loadVar, isAgg, run_underlying Tryd.underlying91, sizeOf_run (size_pr [] []), hl, prA, strV]
theorem Ps.idx (h : Ps w A n c fs) {k : Nat} (hk : k < n) (W : World) : (Instr.indexAt 49 (.slice A n c) (.int .i64 (k : Int))).run Tryd.prog W = .ok (.pointer (some (at_ A (k * 2)))) W :=
  run_index_rd ep (Rd.nil h) (Rd.le h) k hk W
theorem cell_pr {g : Nat} {a b : List UInt8} {t : TypeId} {fr : Nat × Nat} (h : w.heap[g]? = some (.cells (prA a b) t fr)) : w.cell? ⟨g, 0, none⟩ = some (.string ⟨a.toArray⟩) ∧ w.cell? ⟨g, 1, none⟩ = some (.string ⟨b.toArray⟩) := by
  constructor <;> (simp only [World.cell?, h]; rfl)
end
section
variable {ops : Array Oper} {rest : List Oper} {o : Oper} {a : Act} {Q : Exit → Act → World → Prop} {w : World}
theorem fill_pr (x y : List UInt8) : Instr.fill (fun i => some (i * 2, 2)) ((Array.range (1 * 2)).map ((Value.agg (prA [] [])).cells[· % (Value.agg (prA [] [])).cells.size]!)) [(0, .agg (prA x y))] = some (prA x y) := by kernel_rfl
theorem wpList_litP {x : Operand} {u v : List UInt8} (hgd : o.guard = none) (ho : o.op = .buildSlice 49 1 #[(0, x)]) (hx : a.eval x = .agg (prA u v))
    (k : ∀ w', w' = w.alloc (.cells (prA u v) 91) → wpList Tryd.prog ops Q rest (a.put o.dst (.slice (some ⟨w.heap.size, 0, none⟩) 1 1)) w') : wpList Tryd.prog ops Q (o :: rest) a w := by
  obtain ⟨ie, hie, hz, hs, _⟩ := ep.info
  refine wpList_buildSlice hgd 49 91 1 _ ho (prA u v) ie (.agg (prA [] [])) Tryd.underlying49 hie hz (by rw [hs]; decide) (by rw [hs]; decide) ?_ (k _ rfl)
  rw [hs]
  have e : ((#[(0, x)] : Array (Nat × Operand)).map fun (i, x) => (i, a.eval x)).toList = [(0, Value.agg (prA u v))] := by
    simp [hx]
  rw [e]
  exact fill_pr u v
theorem litP_own {w w' : World} {c0 : Array Value} {base : Nat} {t e : TypeId} {size : Nat} {A : Option Addr} {n c : Nat} {xs : List Value} (h : w' = w.alloc (.cells c0 t)) (ho : Own w base e size A n c xs) : Own w' base e size A n c xs := by
  rw [h]
  exact ho.alloc _
theorem litP_rd {w w' : World} {u v : List UInt8} {t : TypeId} (h : w' = w.alloc (.cells (prA u v) t)) : Rd w' 2 (some ⟨w.heap.size, 0, none⟩) 1 1 (prL [(u, v)]) := by
  rw [h]
  exact (Own.new (e := t) (size := 2) (base := w.heap.size) w (prA u v) (0, 0) 1 1 _ (Nat.le_refl _) (Nat.le_refl _) (by unfold maxLen; omega) rfl (Nat.le_refl 2) (fun j y hy => by
    match j, hy with
    | 0, hy => exact hy
    | 1, hy => exact hy) (fun j _ h => by omega)).rd
theorem litP_below {w0 w w' : World} {c0 : Array Value} {B : Nat} {t : TypeId} (h : w' = w.alloc (.cells c0 t)) (hb : Below B w0 w) (hB : B ≤ w.heap.size) : Below B w0 w' := by
  rw [h]
  exact hb.alloc hB _
end

/-! ### targets -/
def tgA (A : Option Addr) (n c : Nat) (B : Option Addr) (m d : Nat) : Array Value := #[.slice A n c, .slice B m d]
def tgZ : Array Value := tgA none 0 0 none 0 0
theorem zero_tg : (Tryd.prog.info? 51).map (·.zero) = some (some (.agg tgZ)) := by kernel_rfl
theorem size_tg0 : (Tryd.prog.info? 51).map (·.size) = some 2 := by kernel_rfl
section
variable {A B : Option Addr} {n c m d : Nat}
theorem size_tg : (Tryd.prog.info? 51).map (·.size) = some (tgA A n c B m d).size := size_tg0
theorem tg_one : ∀ v ∈ (tgA A n c B m d).toList, v.oneCell' = true := by
  intro v hv
  simp [tgA] at hv
  rcases hv with rfl | rfl <;> rfl
theorem cell_tg {w : World} {g : Nat} {t : TypeId} {fr : Nat × Nat} (h : w.heap[g]? = some (.cells (tgA A n c B m d) t fr)) : w.cell? ⟨g, 0, none⟩ = some (.slice A n c) ∧ w.cell? ⟨g, 1, none⟩ = some (.slice B m d) := by
  constructor <;> (simp only [World.cell?, h]; rfl)
end

end Go.Proofs.YtaopohacelmglaaDoor.Tg

/-
  Package target: path.
-/
namespace Go.Proofs.YtaopohacelmglaaDoor.Tg
open Go.RowKit

def Pathed (s : List UInt8) (w : World) (e : Ending) (w' : World) : Prop :=
  Below w.heap.size w w' ∧ ((pathF s = none ∧ e = .returned (.tuple #[.slice none 0 0, .bool false])) ∨ ∃ P A n c, pathF s = some P ∧ e = .returned (.tuple #[.slice A n c, .bool true]) ∧ Own w' w.heap.size 9 1 A n c (P.map strV) ∧ n ≤ s.length + 1)
theorem mapP_app {β : Type} (f : List UInt8 → Option β) : ∀ (a b : List (List UInt8)), mapP f (a ++ b) = (mapP f a).bind fun x => (mapP f b).map (x ++ ·)
  | [], b => by cases h : mapP f b <;> simp [mapP, h]
  | p :: a, b => by
    rw [List.cons_append, mapP, mapP, mapP_app f a b]
    cases f p with
    | none => rfl
    | some y => cases mapP f a <;> cases mapP f b <;> simp
/-- The pieces ahead of k say o. -/
def mapK {β : Type} (f : List UInt8 → Option β) (P : List (List UInt8)) (k : Nat) (o : List β) : Prop := mapP f P = (mapP f (P.drop k)).map (o ++ ·)
theorem mapK_start {β : Type} (f : List UInt8 → Option β) (P : List (List UInt8)) : mapK f P 0 [] := by
  unfold mapK
  rw [List.drop_zero]
  cases mapP f P <;> rfl
theorem mapK_drop {P : List (List UInt8)} {k : Nat} {p : List UInt8} (hx : P[k]? = some p) : P.drop k = p :: P.drop (k + 1) := by
  obtain ⟨hk, he⟩ := List.getElem?_eq_some_iff.1 hx
  rw [List.drop_eq_getElem_cons hk, he]
theorem mapK_bad {β : Type} {f : List UInt8 → Option β} {P : List (List UInt8)} {k : Nat} {o : List β} {p : List UInt8} (h : mapK f P k o) (hx : P[k]? = some p) (hf : f p = none) : mapP f P = none := by
  rw [h, mapK_drop hx, mapP, hf]
  rfl
theorem mapK_step {β : Type} {f : List UInt8 → Option β} {P : List (List UInt8)} {k : Nat} {o : List β} {p : List UInt8} {y : β} (h : mapK f P k o) (hx : P[k]? = some p) (hf : f p = some y) : mapK f P (k + 1) (o ++ [y]) := by
  unfold mapK
  rw [h, mapK_drop hx, mapP, hf]
  cases mapP f (P.drop (k + 1)) <;> simp
theorem mapK_end {β : Type} {f : List UInt8 → Option β} {P : List (List UInt8)} {o : List β} (h : mapK f P P.length o) : mapP f P = some o := by
  rw [h, List.drop_length]
  simp [mapP]
theorem nameF_parts (s : List UInt8) : (partB s = false ∧ nameF s = none) ∨ (partB s = true ∧ partS s = [] ∧ nameF s = none) ∨ (partB s = true ∧ partS s ≠ [] ∧ nameF s = some (partS s)) := by
  unfold partB partS nameF
  cases partF s with
  | none => exact .inl ⟨rfl, rfl⟩
  | some o =>
    by_cases h : o = []
    · exact .inr (.inl ⟨rfl, h, if_pos h⟩)
    · exact .inr (.inr ⟨rfl, h, if_neg h⟩)
theorem ne_emp {l : List UInt8} (h : l ≠ []) : l.isEmpty = false := by
  cases l with
  | nil => exact absurd rfl h
  | cons x l => rfl

set_option maxRecDepth 20000 in
set_option maxHeartbeats 8000000 in
theorem path_loop (s : List UInt8) (hs : s.length ≤ 1048575) (h47 : (47 :: s) ≠ [47]) (w : World) (hm : Mx w) : Calls Tryd.prog 35 #[.string ⟨(47 :: s).toArray⟩] w (Pathed (47 :: s) w) := by
  have HSP := Lib.hid (Split_any 47 s (by omega) w hm)
  have hpf : pathF (47 :: s) = mapP nameF (split1 47 s) := by
    unfold pathF
    rw [if_neg h47]
    exact if_pos rfl
  obtain ⟨hpl, hpe⟩ := split1_le 47 s
  obtain ⟨P, hP⟩ : ∃ P, split1 47 s = P := ⟨_, rfl⟩
  rw [hP] at HSP hpl hpe hpf
  have HPF := Lib.hid hpf
  obtain ⟨N, hN⟩ : ∃ N, P.length = N := ⟨_, rfl⟩
  rw [hN] at HSP hpl
  have HN := Lib.hid hN
  have hN1 : N ≤ 1048577 := by omega
  have HPL := Lib.hid hpl
  have HPE := Lib.hid (fun p hp => (Nat.le_trans (hpe p hp) (by omega) : p.length ≤ 1048576))
  have hne : ((47 :: s) == [47]) = false := by simpa using h47
  have hsl : ∀ W, (Instr.sliceAt 9 (.string ⟨(47 :: s).toArray⟩) (some (.int .i64 1)) none none).run Tryd.prog W = .ok (.string ⟨s.toArray⟩) W := fun W => run_str_l (P := Tryd.prog) Tryd.underlying9 (47 :: s) 1 (by simp) (kl := .i64) W
  have HPR := Lib.hid (fun W => Tryd.strings_HasPrefix ⟨(47 :: s).toArray⟩ ⟨#[47]⟩ W)
  have hpr : Lib.hasPrefix (⟨(47 :: s).toArray⟩ : ByteArray).data.toList (⟨#[47]⟩ : ByteArray).data.toList = true := by simp [Lib.hasPrefix]
  rw [hpr] at HPR
  have hne2 : s.isEmpty = false := by cases s with
    | nil => exact absurd rfl h47
    | cons x l => rfl
  obtain ⟨X, hX⟩ : ∃ X, 47 :: s = X := ⟨_, rfl⟩
  have HX := Lib.hid hX
  rw [hX] at hne hsl HPR ⊢
  have hsX : s.length ≤ X.length := by rw [← hX]; simp
  have HSX := Lib.hid hsX
  rw [hX] at HPF
  clear hP hN hm hpe hpl hs hpf h47 hpr hX hsX
  go_enter Tryd.func35, Tryd.ntmps35
  go_wp2_with fail
  refine (HPR.out _).mono ?_
  rintro e w0 ⟨rfl, rfl⟩
  go_wp2_with fail
  refine HSP.out.mono ?_
  rintro e w1 ⟨rfl, hw1⟩
  have hrd : Rd w1 1 (some ⟨w0.heap.size, 0, none⟩) N N (P.map strV) := by
    rw [hw1]
    exact Rd.lit w0 _ _ N (by rw [List.length_map, HN.out]) (by unfold maxLen; omega)
  have hb1 : Below w0.heap.size w0 w1 := by rw [hw1]; exact (Below.refl _ _).alloc (Nat.le_refl _) _
  clear hw1
  obtain ⟨A1, hA1⟩ : ∃ A1, (some ⟨w0.heap.size, 0, none⟩ : Option Addr) = A1 := ⟨_, rfl⟩
  rw [hA1] at hrd ⊢
  have hs1 := hb1.size
  clear hA1 HSP
  go_wp2_with fail
  go_loopw [4, 18] (fun l i wr => ∃ (k : Nat) (A : Option Addr) (n c : Nat) (o : List (List UInt8)), k ≤ N ∧ l = .slice A n c ∧ i = .int .i64 k ∧ Own wr w1.heap.size 9 1 A n c (o.map strV) ∧ n = k ∧ Hid (mapK nameF P k o) ∧ Below w1.heap.size w1 wr) (fun _ i _ => N - (intOf i).toNat)
  case atStart => exact ⟨0, none, 0, 0, [], by omega, rfl, rfl, Own.nil_ _ _ _ _, rfl, mapK_start _ _, Below.refl _ _⟩
  case round =>
    obtain ⟨k, A, n, c, o, hk, rfl, rfl, ho, hn, hH, hb⟩ := hrel
    by_cases hkN : k < N
    · have hx : P[k]? = some (P[k]'(by rw [HN.out]; exact hkN)) := List.getElem?_eq_getElem _
      generalize P[k]'(by rw [HN.out]; exact hkN) = p at hx
      have hidx := run_index_rd (P := Tryd.prog) (A := A1) (n := N) (c := N) es hrd.nil hrd.le k hkN
      rw [Nat.mul_one] at hidx
      have hcell := (hrd.below hb).cell k (strV p) (by rw [List.getElem?_map, hx]; rfl)
      have hpl := HPE.out p (List.mem_of_getElem? hx)
      have HT := Lib.hid (fun W => part_any p hpl W)
      unfold Parted at HT
      have hcs := nameF_parts p
      obtain ⟨q, hq⟩ : ∃ q, partS p = q := ⟨_, rfl⟩
      obtain ⟨f, hf⟩ : ∃ f, partB p = f := ⟨_, rfl⟩
      rw [hq, hf] at HT hcs
      have hk' : (k : Int) < N := by omega
      have hs1r := hb.size
      unfold strV at hcell
      rcases hcs with ⟨rfl, hno⟩ | ⟨rfl, rfl, hno⟩ | ⟨rfl, hqe, hyes⟩
      · have HE := Lib.hid (HPF.out.trans (mapK_bad hH.out hx hno))
        clear hx hkN hq hf hno hH hn
        go_wp2_with fail
        refine (HT.out _).mono ?_
        rintro e w2 ⟨rfl, hb2⟩
        have hb12 := hb1.trans ((hb.trans (hb2.mono hb.size)).mono hs1)
        clear hb2
        go_wp2_with fail
        go_ret2
        exact ⟨hb12, .inl ⟨HE.out, rfl⟩⟩
      · have HE := Lib.hid (HPF.out.trans (mapK_bad hH.out hx hno))
        clear hx hkN hq hf hno hH hn
        go_wp2_with fail
        refine (HT.out _).mono ?_
        rintro e w2 ⟨rfl, hb2⟩
        have hb12 := hb1.trans ((hb.trans (hb2.mono hb.size)).mono hs1)
        clear hb2
        go_wp2_with fail
        go_ret2
        exact ⟨hb12, .inl ⟨HE.out, rfl⟩⟩
      · have HN2 := Lib.hid (mapK_step hH.out hx hyes)
        have hqi := ne_emp hqe
        have HNK := Lib.hid hn
        have hn2 : n + 1 ≤ 1048578 := by omega
        clear hx hkN hq hf hyes hH hqe hn
        go_wp2_with fail
        refine (HT.out _).mono ?_
        rintro e w2 ⟨rfl, hb2⟩
        have hb12 := hb.trans (hb2.mono hb.size)
        have ho2 := ho.below hb2
        clear hb2
        go_wp2_with (at_builtin; refine wpList_app rfl _ _ rfl es (ho2.alloc _) rfl (Rd.lit _ [_] _ 1 rfl (by unfold maxLen; omega)) rfl (by simp [Value.oneCell']) (by omega) (by unfold maxLen; omega) (by have := hb12.size; simp; omega) ?_; intro A4 c4 w4 ho4 hg4 hq4; have hb4 := below_app hb12 (Nat.le_refl _) ho2 hg4)
        have ho5 : Own w4 w1.heap.size 9 1 A4 (n + 1) c4 ((o ++ [q]).map strV) := by
          rw [List.map_append]
          exact ho4
        go_roundw
        case rel => exact ⟨k + 1, A4, n + 1, c4, o ++ [q], by omega, rfl, by go_num, ho5, by rw [HNK.out], HN2, hb4⟩
        case measure => simp [intOf]; omega
    · obtain rfl : k = N := by omega
      have hend : mapP nameF P = some o := mapK_end (by rw [HN.out]; exact hH.out)
      have HE := Lib.hid (HPF.out.trans hend)
      clear hkN hend hH
      go_wp2_with fail
      go_ret2
      exact ⟨hb1.trans (hb.mono hs1), .inr ⟨o, A, n, c, HE.out, rfl, ho.mono hs1, by have := HPL.out; have := HSX.out; omega⟩⟩

set_option maxHeartbeats 4000000 in
theorem path_any (s : List UInt8) (hs : s.length ≤ 1048576) (w : World) (hm : Mx w) : Calls Tryd.prog 35 #[.string ⟨s.toArray⟩] w (Pathed s w) := by
  rcases s with _ | ⟨x, s⟩
  · have HPR := Lib.hid (fun W => Tryd.strings_HasPrefix ⟨#[]⟩ ⟨#[47]⟩ W)
    have hpr : Lib.hasPrefix (⟨#[]⟩ : ByteArray).data.toList (⟨#[47]⟩ : ByteArray).data.toList = false := by decide
    rw [hpr] at HPR
    clear hpr
    go_enter Tryd.func35, Tryd.ntmps35
    go_wp2_with fail
    refine (HPR.out _).mono ?_
    rintro e w0 ⟨rfl, rfl⟩
    go_wp2_with fail
    go_ret2
    exact ⟨Below.refl _ _, .inl ⟨rfl, rfl⟩⟩
  by_cases hx : x = 47
  · subst hx
    by_cases h0 : s = []
    · subst h0
      go_enter Tryd.func35, Tryd.ntmps35
      go_wp2_with fail
      go_ret2
      exact ⟨Below.refl _ _, .inr ⟨[], none, 0, 0, rfl, rfl, Own.nil_ _ _ _ _, by omega⟩⟩
    · exact path_loop s (by simpa using hs) (fun e => h0 (by simpa using e)) w hm
  · have HPR := Lib.hid (fun W => Tryd.strings_HasPrefix ⟨(x :: s).toArray⟩ ⟨#[47]⟩ W)
    have hpr : Lib.hasPrefix (⟨(x :: s).toArray⟩ : ByteArray).data.toList (⟨#[47]⟩ : ByteArray).data.toList = false := by simp [Lib.hasPrefix, List.isPrefixOf, Ne.symm hx]
    rw [hpr] at HPR
    have hne : ((x :: s) == [47]) = false := by simp [hx]
    have hno : pathF (x :: s) = none := by simp [pathF, hx]
    have HE := Lib.hid hno
    obtain ⟨X, hX⟩ : ∃ X, x :: s = X := ⟨_, rfl⟩
    rw [hX] at hne HPR HE ⊢
    clear hpr hX hno hx
    go_enter Tryd.func35, Tryd.ntmps35
    go_wp2_with fail
    refine (HPR.out _).mono ?_
    rintro e w0 ⟨rfl, rfl⟩
    go_wp2_with fail
    go_ret2
    exact ⟨Below.refl _ _, .inl ⟨HE.out, rfl⟩⟩

end Go.Proofs.YtaopohacelmglaaDoor.Tg
