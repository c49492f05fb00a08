/-
  Plain laws on manifests' bytes: which are some, and what they say.
-/
import Derived.Test.YtebnmpgoiedicaaSnapC
namespace Go.Proofs.Ytebnmpgoiedicaa
open Go.RowKit

theorem putB_beN (l : List UInt8) : putB (beN l) l.length = l := by
  have H : ∀ (n : Nat) (l : List UInt8), l.length = n → putB (beN l) n = l := by
    intro n
    induction n with
    | zero =>
      intro l h
      rw [List.eq_nil_of_length_eq_zero h]
      rfl
    | succ n ih =>
      intro l h
      obtain ⟨r, x, rfl⟩ : ∃ r x, l = r ++ [x] := by
        have hne : l ≠ [] := by
          intro e
          subst e
          simp at h
        exact ⟨l.dropLast, l.getLast hne, (List.dropLast_concat_getLast hne).symm⟩
      have hr : r.length = n := by simpa using h
      have hx := x.toNat_lt
      rw [beN_snoc, putB, show (beN r * 256 + x.toNat) / 256 = beN r by omega, ih r hr]
      congr 2
      apply UInt8.toNat_inj.1
      rw [UInt8.toNat_ofNat']
      omega
  exact H _ l rfl

theorem takeC_ge : ∀ (l : List UInt8) (i v N at' : Nat), 0 < i → takeC l i v = (N, at', 0) → 128 ^ i ≤ N
  | [], i, v, N, at', _, h => by simp [takeC] at h
  | x :: r, i, v, N, at', hi, h => by
    rw [takeC] at h
    split at h
    · simp at h
    · rename_i hb
      split at h
      · have hN := congrArg Prod.fst h
        have hx : 1 ≤ x.toNat := by omega
        dsimp only at hN
        have : 1 * 128 ^ i ≤ x.toNat * 128 ^ i := Nat.mul_le_mul_right _ hx
        omega
      · have := takeC_ge r (i + 1) _ N at' (by omega) h
        have h2 : (128 : Nat) ^ i ≤ 128 ^ (i + 1) := Nat.pow_le_pow_right (by omega) (by omega)
        omega
theorem tcR_small {l : List UInt8} {N at' : Nat} (h : tcR l = (N, at', 0)) (hN : N < 128) : ∃ x r, l = x :: r ∧ x.toNat = N ∧ at' = 1 := by
  unfold tcR at h
  cases l with
  | nil => simp [takeC] at h
  | cons x r =>
    rw [takeC] at h
    split at h
    · simp at h
    · split at h
      · simp only [Prod.mk.injEq] at h
        obtain ⟨h1, h2, _⟩ := h
        exact ⟨x, r, rfl, by simpa using h1, h2.symm⟩
      · have := takeC_ge r 1 _ N at' (by omega) h
        omega

/-- The bytes' parts: the root, the time, the label. -/
def RT (l : List UInt8) : List UInt8 := (l.drop 2).take 32
def tT (l : List UInt8) : Nat := beN ((l.drop 34).take 8)
def sT (l : List UInt8) : ByteArray := ⟨(l.drop 43).toArray⟩
/-- Are the bytes a manifest? -/
def okT (l : List UInt8) : Prop := 43 ≤ l.length ∧ l.take 2 = [83, 49] ∧ tT l ≤ 9223372036854775807 ∧ (l.getD 42 0).toNat = l.length - 43 ∧ mayB (tT l) (sT l) = true
instance (l : List UInt8) : Decidable (okT l) := by unfold okT; infer_instance
def mZ : Array Value := mC (List.replicate 32 0) 0 ByteArray.empty
/-- What Take hands back. -/
def takeM (l : List UInt8) : Array Value × Int := if okT l then (mC (RT l) (tT l) (sT l), 0) else (mZ, 4)

theorem sT_size (l : List UInt8) : (sT l).size = l.length - 43 := by simp [sT, ByteArray.size]
theorem RT_length {l : List UInt8} (h : 34 ≤ l.length) : (RT l).length = 32 := by
  unfold RT
  rw [List.length_take, List.length_drop]
  omega
theorem tT_lt (l : List UInt8) : tT l < 18446744073709551616 := by
  have h1 := beN_lt ((l.drop 34).take 8)
  have h2 : ((l.drop 34).take 8).length ≤ 8 := List.length_take_le _ _
  have h3 : (256 : Nat) ^ ((l.drop 34).take 8).length ≤ 256 ^ 8 := Nat.pow_le_pow_right (by omega) h2
  have h8 : (256 : Nat) ^ 8 = 18446744073709551616 := by decide
  unfold tT
  omega
theorem drop_head {l : List UInt8} (h : 43 ≤ l.length) : l.drop 42 = l.getD 42 0 :: l.drop 43 := by
  rw [List.drop_eq_getElem_cons (by omega)]
  simp [List.getD, List.getElem?_eq_getElem (show 42 < l.length by omega)]

theorem at_short {l : List UInt8} (h : l.length < 42) : atR l 34 8 = (0, 3) := by
  unfold atR
  rw [if_neg (by omega), if_pos (by omega)]
theorem at_long {l : List UInt8} (h : 42 ≤ l.length) : atR l 34 8 = (((tT l : Nat) : Int), 0) := by
  unfold atR
  rw [if_neg (by omega), if_neg (by omega)]
  rfl

theorem tt_ok {l : List UInt8} (h : okT l) : ttR (l.drop 42) = (l.drop 43, l.length - 42, 0) := by
  obtain ⟨h1, _, _, h4, h5⟩ := h
  have hs := may_size h5
  rw [sT_size] at hs
  have hc : tcR (l.drop 42) = (l.length - 43, 1, 0) := by
    unfold tcR
    rw [drop_head h1, takeC, if_neg (by omega), if_pos (by omega), h4]
    simp
  unfold ttR
  rw [hc]
  dsimp only
  have hl : (l.drop 42).length = l.length - 42 := List.length_drop ..
  rw [if_neg (by omega), if_neg (by omega), if_neg (by rw [hl]; omega), List.drop_drop, List.take_of_length_le (by rw [List.length_drop]; omega)]
  simp only [Prod.mk.injEq, true_and, and_true]
  omega
theorem tt_le (l : List UInt8) : (ttR l).2.1 ≤ l.length ∧ (ttR l).1.length ≤ l.length := by
  have hb := (takeC_bounds l 0 0 (by omega) (by omega)).2.1
  have e : takeC l 0 0 = tcR l := rfl
  rw [e] at hb
  unfold ttR
  split
  · simp
  · split
    · simp
    · split
      · simp
      · refine ⟨by dsimp only; omega, ?_⟩
        dsimp only
        rw [List.length_take, List.length_drop]
        omega
theorem tt_back {l L : List UInt8} {n : Nat} (h2 : l.take 2 = [83, 49]) (hT : tT l ≤ 9223372036854775807) (h : ttR (l.drop 42) = (L, n, 0)) (hn : 42 + n = l.length) (hm : mayB (tT l) ⟨L.toArray⟩ = true) : okT l ∧ L = l.drop 43 := by
  have hL : L.length ≤ 64 := by
    have := may_size hm
    simpa [ByteArray.size] using this
  unfold ttR at h
  obtain ⟨N, at', e, ht⟩ : ∃ N at' e, tcR (l.drop 42) = (N, at', e) := ⟨_, _, _, rfl⟩
  rw [ht] at h
  dsimp only at h
  split at h
  · rename_i h0
    simp only [Prod.mk.injEq] at h
    omega
  · rename_i h0
    split at h
    · simp at h
    · split at h
      · simp at h
      · rename_i h3
        simp only [Prod.mk.injEq] at h
        obtain ⟨e1, e2, _⟩ := h
        have hN : N = L.length := by
          rw [← e1, List.length_take, List.length_drop]
          omega
        obtain rfl : e = 0 := by omega
        obtain ⟨x, r, hx, hxN, rfl⟩ := tcR_small ht (by omega)
        have hlen : (l.drop 42).length = r.length + 1 := by rw [hx]; rfl
        rw [List.length_drop] at hlen
        have h43 : 43 ≤ l.length := by omega
        have hd := drop_head h43
        rw [hx] at hd
        injection hd with hd1 hd2
        have hLe : L = l.drop 43 := by
          rw [← e1, hx]
          simp only [List.drop_succ_cons, List.drop_zero]
          rw [hd2, List.take_of_length_le (by rw [List.length_drop]; omega)]
        refine ⟨⟨h43, h2, hT, ?_, ?_⟩, hLe⟩
        · rw [← hd1]
          omega
        · unfold sT
          rw [← hLe]
          exact hm

/-- What the document's Take makes of the time. -/
theorem split43 {l : List UInt8} (h : 43 ≤ l.length) : l = l.take 2 ++ RT l ++ (l.drop 34).take 8 ++ [l.getD 42 0] ++ l.drop 43 := by
  have e1 : [l.getD 42 0] ++ l.drop 43 = l.drop 42 := (drop_head h).symm
  rw [List.append_assoc, e1]
  have e2 : (l.drop 34).take 8 ++ l.drop 42 = l.drop 34 := by
    have := List.take_append_drop 8 (l.drop 34)
    rwa [List.drop_drop] at this
  have e3 : RT l ++ l.drop 34 = l.drop 2 := by
    have := List.take_append_drop 32 (l.drop 2)
    rwa [List.drop_drop] at this
  rw [List.append_assoc, e2, List.append_assoc, e3, List.take_append_drop]
theorem bytes_back {l : List UInt8} (h : 43 ≤ l.length) : (bytesP (RT l) (if tT l ≤ 9223372036854775807 then (tT l : Int) else (tT l : Int) - 18446744073709551616) (sT l) = (l, 0)) ↔ okT l := by
  have hlt := tT_lt l
  have hsz := sT_size l
  have h8 : ((l.drop 34).take 8).length = 8 := by rw [List.length_take, List.length_drop]; omega
  constructor
  · intro hb
    obtain ⟨t', ht'⟩ : ∃ t' : Int, (if tT l ≤ 9223372036854775807 then (tT l : Int) else (tT l : Int) - 18446744073709551616) = t' := ⟨_, rfl⟩
    rw [ht'] at hb
    unfold bytesP at hb
    by_cases hm : mayB t' (sT l) = true
    · rw [if_pos hm] at hb
      have ht := may_time hm
      have hs := may_size hm
      have hT : tT l ≤ 9223372036854775807 := by
        rcases Nat.lt_or_ge 9223372036854775807 (tT l) with h | h
        · rw [if_neg (by omega)] at ht'
          omega
        · exact h
      rw [if_pos hT] at ht'
      subst ht'
      have hl := congrArg Prod.fst hb
      dsimp only at hl
      rw [countB_small _ (by omega)] at hl
      have e2 : l.take 2 = [83, 49] := by
        rw [← hl]
        simp
      have e42 : l.getD 42 0 = UInt8.ofNat (sT l).size := by
        have hR := RT_length (show 34 ≤ l.length by omega)
        obtain ⟨R, hRe⟩ : ∃ R, RT l = R := ⟨_, rfl⟩
        obtain ⟨s, hse⟩ : ∃ s, sT l = s := ⟨_, rfl⟩
        rw [hRe] at hR hl
        rw [hse] at hl ⊢
        have : l[42]? = some (UInt8.ofNat s.size) := by
          rw [← hl, List.append_assoc, List.getElem?_append_right (by simp [putB_length, hR])]
          simp [putB_length, hR]
        simp [List.getD, this]
      refine ⟨h, e2, hT, ?_, hm⟩
      rw [e42, UInt8.toNat_ofNat', Nat.mod_eq_of_lt (by omega), hsz]
    · rw [if_neg hm] at hb
      simp at hb
  · intro ⟨_, h2, hT, h4, h5⟩
    have hs := may_size h5
    unfold bytesP
    rw [if_pos hT, if_pos h5, countB_small _ (by omega)]
    have e := split43 h
    have e8 : putB (tT l) 8 = (l.drop 34).take 8 := by
      have := putB_beN ((l.drop 34).take 8)
      rw [h8] at this
      exact this
    have e42 : UInt8.ofNat (sT l).size = l.getD 42 0 := by
      apply UInt8.toNat_inj.1
      rw [UInt8.toNat_ofNat', Nat.mod_eq_of_lt (by omega), hsz, h4]
    rw [Int.toNat_natCast, e8, e42, ← h2]
    have e43 : (sT l).data.toList = l.drop 43 := rfl
    rw [e43]
    simp only [Prod.mk.injEq, and_true]
    exact e.symm

end Go.Proofs.Ytebnmpgoiedicaa
