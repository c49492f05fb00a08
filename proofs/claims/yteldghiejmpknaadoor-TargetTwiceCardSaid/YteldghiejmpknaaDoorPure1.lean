/-
  Plain functions: what package octet writes and reads, on lists of bytes. No program is named here.
-/
import Derived.Test.YteldghiejmpknaaDoorBase
namespace Go.Proofs.YteldghiejmpknaaDoor
open Go.RowKit

/-- v in n bytes, the highest first. -/
def putB (v : Nat) : Nat → List UInt8
  | 0 => []
  | n + 1 => putB (v / 256) n ++ [UInt8.ofNat v]

theorem putB_length (v n : Nat) : (putB v n).length = n := by
  induction n generalizing v with
  | zero => rfl
  | succ n ih => simp [putB, ih]

theorem putB_step (v n j : Nat) (h : j < n) : putB (v / 256 ^ j) (n - j) = putB (v / 256 ^ (j + 1)) (n - (j + 1)) ++ [UInt8.ofNat (v / 256 ^ j)] := by
  obtain ⟨d, rfl⟩ : ∃ d, n = j + 1 + d := ⟨n - (j + 1), by omega⟩
  have e1 : j + 1 + d - j = d + 1 := by omega
  have e2 : j + 1 + d - (j + 1) = d := by omega
  rw [e1, e2, putB, Nat.div_div_eq_div_mul, ← Nat.pow_succ]

theorem putB_cons (v i : Nat) : putB v (i + 1) = UInt8.ofNat (v / 256 ^ i) :: putB v i := by
  induction i generalizing v with
  | zero => simp [putB]
  | succ i ih =>
    have e : v / 256 / 256 ^ i = v / 256 ^ (i + 1) := by rw [Nat.div_div_eq_div_mul, Nat.pow_succ, Nat.mul_comm]
    rw [putB, ih, e, List.cons_append, putB]

/-- The number that bytes are, the highest first. -/
def beN (l : List UInt8) : Nat := l.foldl (fun a x => a * 256 + x.toNat) 0
theorem beN_snoc (l : List UInt8) (x : UInt8) : beN (l ++ [x]) = beN l * 256 + x.toNat := by simp [beN]
theorem foldl_be_lt (l : List UInt8) : ∀ a, l.foldl (fun a x => a * 256 + x.toNat) a < (a + 1) * 256 ^ l.length := by
  induction l with
  | nil => intro a; simp
  | cons x l ih =>
    intro a
    have h1 := ih (a * 256 + x.toNat)
    have h2 := x.toNat_lt
    rw [List.foldl_cons, List.length_cons, Nat.pow_succ, Nat.mul_comm (256 ^ l.length) 256, ← Nat.mul_assoc]
    refine Nat.lt_of_lt_of_le h1 (Nat.mul_le_mul_right _ ?_)
    omega
theorem beN_lt (l : List UInt8) : beN l < 256 ^ l.length := by simpa [beN] using foldl_be_lt l 0
theorem beN_putB (v n : Nat) : beN (putB v n) = v % 256 ^ n := by
  induction n generalizing v with
  | zero => simp [putB, beN, Nat.mod_one]
  | succ n ih =>
    rw [putB, beN_snoc, ih]
    have e : (UInt8.ofNat v).toNat = v % 256 := by simp
    rw [e, Nat.pow_succ, Nat.mul_comm (256 ^ n) 256, Nat.mod_mul]
    omega

/-- v in groups of seven bits, the lowest first. -/
def countB (v : Nat) : List UInt8 := if v < 128 then [UInt8.ofNat v] else UInt8.ofNat (v % 128 + 128) :: countB (v / 128)
termination_by v
decreasing_by omega

/-- The number at the beginning: from place i on, with v already read. -/
def takeC : List UInt8 → Nat → Nat → Nat × Nat × Int
  | [], _, _ => (0, 0, 3)
  | x :: r, i, v =>
    if (i = 9 ∧ 1 < x.toNat) ∨ (x.toNat = 0 ∧ 0 < i) then (0, 0, 4)
    else if x.toNat < 128 then (v + x.toNat * 128 ^ i, i + 1, 0)
    else takeC r (i + 1) (v + (x.toNat - 128) * 128 ^ i)

/-! ### Bits -/
theorem or_join (q x : Int) (hq0 : 0 ≤ q) (hq : q < 72057594037927936) (hx0 : 0 ≤ x) (hx : x ≤ 255) : bits .or .u64 (q * 256) x = q * 256 + x := by
  obtain ⟨Q, rfl⟩ := Int.eq_ofNat_of_zero_le hq0
  obtain ⟨X, rfl⟩ := Int.eq_ofNat_of_zero_le hx0
  have e : (Q : Int) * 256 = ((Q * 256 : Nat) : Int) := by omega
  rw [e, u64_or_nat _ _ (by omega) (by omega), nat_join 8 (Q * 256) X (by omega) (by omega)]
  omega
theorem ofInt_i64 (a : Nat) (ha : a < 9223372036854775808) : (BitVec.ofInt 64 (a : Int)).toNat = a := by
  rw [BitVec.ofInt_natCast, BitVec.toNat_ofNat]; exact Nat.mod_eq_of_lt (by omega)
theorem i64_and_nat (a b : Nat) (ha : a < 9223372036854775808) (hb : b < 9223372036854775808) : bits .and .i64 (a : Int) (b : Int) = ((a &&& b : Nat) : Int) := by
  have hx : a &&& b < 2 ^ 63 := Nat.and_lt_two_pow _ (by omega)
  show IntKind.i64.wrap ((BitVec.ofInt 64 (a : Int) &&& BitVec.ofInt 64 (b : Int)).toNat : Int) = _
  rw [BitVec.toNat_and, ofInt_i64 a ha, ofInt_i64 b hb, IntKind.wrap_i64]
  omega
theorem i64_and7 (k : Int) (h0 : 0 ≤ k) (h1 : k ≤ 9223372036854775807) : bits .and .i64 k 7 = k % 8 := by
  obtain ⟨K, rfl⟩ := Int.eq_ofNat_of_zero_le h0
  have := i64_and_nat K 7 (by omega) (by omega)
  rw [nat_mask3] at this
  exact this.trans (by omega)
theorem u8_and1 (x : Int) (h0 : 0 ≤ x) (h1 : x ≤ 255) : bits .and .u8 x 1 = x % 2 := by
  obtain ⟨K, rfl⟩ := Int.eq_ofNat_of_zero_le h0
  have := u8_and_nat K 1 (by omega) (by omega)
  rw [nat_mask1] at this
  exact this.trans (by omega)
theorem u8_and127 (x : Int) (h0 : 0 ≤ x) (h1 : x ≤ 255) : bits .and .u8 x 127 = x % 128 := by
  obtain ⟨K, rfl⟩ := Int.eq_ofNat_of_zero_le h0
  have := u8_and_nat K 127 (by omega) (by omega)
  rw [nat_mask7] at this
  exact this.trans (by omega)
theorem nat_or128 : ∀ x : Fin 256, x.1 ||| 128 = x.1 % 128 + 128 := by decide +kernel
theorem u8_or128 (x : Int) (h0 : 0 ≤ x) (h1 : x ≤ 255) : bits .or .u8 x 128 = x % 128 + 128 := by
  obtain ⟨K, rfl⟩ := Int.eq_ofNat_of_zero_le h0
  have := u8_or_nat K 128 (by omega) (by omega)
  rw [nat_or128 ⟨K, by omega⟩] at this
  exact this.trans (by dsimp only; omega)
/-- v with seven bits more on top. -/
theorem or_top (v x : Int) (i : Nat) (hv0 : 0 ≤ v) (hv : v < 128 ^ i) (hx0 : 0 ≤ x) (hx : x < 128) (hi : i ≤ 9) (h9 : x * 128 ^ i ≤ 18446744073709551615) : bits .or .u64 v (x * 128 ^ i) = v + x * 128 ^ i := by
  obtain ⟨V, rfl⟩ := Int.eq_ofNat_of_zero_le hv0
  obtain ⟨X, rfl⟩ := Int.eq_ofNat_of_zero_le hx0
  have hp : (128 : Nat) ^ i = 2 ^ (7 * i) := by rw [Nat.pow_mul]
  have hpi : (128 : Int) ^ i = ((128 ^ i : Nat) : Int) := by rw [Int.natCast_pow]; rfl
  rw [hpi] at hv h9 ⊢
  have h128 : (128 : Nat) ^ i ≤ 128 ^ 9 := Nat.pow_le_pow_right (by omega) hi
  have e : (X : Int) * ((128 ^ i : Nat) : Int) = ((X * 128 ^ i : Nat) : Int) := by rw [Int.natCast_mul]
  rw [e] at h9 ⊢
  have hV : V < 128 ^ i := by omega
  rw [u64_or_nat _ _ (by have : (128:Nat)^9 = 9223372036854775808 := by decide
                         omega) (by omega), Nat.or_comm, nat_join (7 * i) (X * 128 ^ i) V (by rw [hp, Nat.mul_mod_left]) (by rw [← hp]; exact hV)]
  omega

theorem takeC_step {l : List UInt8} {j : Nat} {x : UInt8} (h : l[j]? = some x) (q : Nat) : takeC (l.drop j) j q =
    if (j = 9 ∧ 1 < x.toNat) ∨ (x.toNat = 0 ∧ 0 < j) then (0, 0, 4) else if x.toNat < 128 then (q + x.toNat * 128 ^ j, j + 1, 0) else takeC (l.drop (j + 1)) (j + 1) (q + (x.toNat - 128) * 128 ^ j) := by
  obtain ⟨hj, rfl⟩ := List.getElem?_eq_some_iff.1 h
  rw [List.drop_eq_getElem_cons hj, takeC]
theorem takeC_end {l : List UInt8} {j : Nat} (h : l.length ≤ j) (q : Nat) : takeC (l.drop j) j q = (0, 0, 3) := by
  rw [List.drop_eq_nil_of_le h, takeC]
theorem pow128 (j : Nat) : (2 : Int) ^ (7 * j) = ((128 ^ j : Nat) : Int) := by
  have : (128 : Nat) ^ j = 2 ^ (7 * j) := by rw [Nat.pow_mul]
  rw [this, Int.natCast_pow]
  rfl
theorem tc_or (q : Int) (x j : Nat) (hq0 : 0 ≤ q) (hq : q.toNat < 128 ^ j) (hx : x ≤ 255) (hj : j ≤ 9) (h9 : j = 9 → x ≤ 1) :
    bits .or .u64 q (IntKind.u64.wrap ((x : Int) % 128 * 2 ^ (7 * j))) = ((q.toNat + x % 128 * 128 ^ j : Nat) : Int) := by
  obtain ⟨V, rfl⟩ := Int.eq_ofNat_of_zero_le hq0
  have hb : x % 128 * 128 ^ j ≤ 9223372036854775808 := by
    by_cases h : j = 9
    · subst h
      have := h9 rfl
      have : (128 : Nat) ^ 9 = 9223372036854775808 := by decide
      rw [this]
      omega
    · have h1 : (128 : Nat) ^ j ≤ 128 ^ 8 := Nat.pow_le_pow_right (by omega) (by omega)
      have h2 : x % 128 * 128 ^ j ≤ 127 * 128 ^ 8 := Nat.mul_le_mul (by omega) h1
      have : 127 * (128 : Nat) ^ 8 ≤ 9223372036854775808 := by decide
      omega
  have e : (x : Int) % 128 * 2 ^ (7 * j) = ((x % 128 * 128 ^ j : Nat) : Int) := by rw [pow128, Int.natCast_mul]; rfl
  have hw : IntKind.u64.wrap ((x % 128 * 128 ^ j : Nat) : Int) = ((x % 128 * 128 ^ j : Nat) : Int) := by rw [IntKind.wrap_u64]; omega
  rw [e, hw]
  have hp : (128 : Nat) ^ j = 2 ^ (7 * j) := by rw [Nat.pow_mul]
  have hV : V < 128 ^ j := by omega
  have h128 : (128 : Nat) ^ j ≤ 128 ^ 9 := Nat.pow_le_pow_right (by omega) hj
  have h19 : (128 : Nat) ^ 9 = 9223372036854775808 := by decide
  rw [u64_or_nat _ _ (by omega) (by omega), Nat.or_comm, nat_join (7 * j) (x % 128 * 128 ^ j) V (by rw [hp, Nat.mul_mod_left]) (by rw [← hp]; exact hV)]
  simp only [Int.toNat_natCast]
  omega

theorem xor_u64_ones (x : Int) (h0 : 0 ≤ x) (h1 : x ≤ 18446744073709551615) : bits .xor .u64 x 18446744073709551615 = 18446744073709551615 - x := by
  obtain ⟨X, rfl⟩ := Int.eq_ofNat_of_zero_le h0
  have h := u64_xor_nat X 18446744073709551615 (by omega) (by omega)
  have e : X ^^^ 18446744073709551615 = 18446744073709551615 - X := by
    have h2 : (BitVec.ofNat 64 X ^^^ BitVec.allOnes 64).toNat = 18446744073709551615 - X := by
      rw [BitVec.xor_allOnes, BitVec.toNat_not, BitVec.toNat_ofNat, Nat.mod_eq_of_lt (by omega)]
    rw [BitVec.toNat_xor, BitVec.toNat_ofNat, Nat.mod_eq_of_lt (by omega), BitVec.toNat_allOnes] at h2
    exact h2
  rw [e] at h
  exact h.trans (by omega)
theorem xor_u64_zero (x : Int) (h0 : 0 ≤ x) (h1 : x ≤ 18446744073709551615) : bits .xor .u64 x 0 = x := by
  obtain ⟨X, rfl⟩ := Int.eq_ofNat_of_zero_le h0
  have h := u64_xor_nat X 0 (by omega) (by omega)
  rw [Nat.xor_zero] at h
  exact h
theorem zig_bits (v : Int) (h0 : -9223372036854775808 ≤ v) (h1 : v ≤ 9223372036854775807) :
    bits .xor .u64 (IntKind.u64.wrap (IntKind.u64.wrap v * 2)) (IntKind.u64.wrap (v / 9223372036854775808)) = if v < 0 then 2 * -(v + 1) + 1 else 2 * v := by
  simp only [IntKind.wrap_u64]
  by_cases h : v < 0
  · have e1 : v / 9223372036854775808 % 18446744073709551616 = 18446744073709551615 := by omega
    rw [if_pos h, e1, xor_u64_ones _ (by omega) (by omega)]
    omega
  · have e1 : v / 9223372036854775808 % 18446744073709551616 = 0 := by omega
    rw [if_neg h, e1, xor_u64_zero _ (by omega) (by omega)]
    omega
theorem xor_i64_ones (x : Int) (h0 : 0 ≤ x) (h1 : x ≤ 9223372036854775807) : bits .xor .i64 x (-1) = -x - 1 := by
  obtain ⟨X, rfl⟩ := Int.eq_ofNat_of_zero_le h0
  show IntKind.i64.wrap ((BitVec.ofInt 64 (X : Int) ^^^ BitVec.ofInt 64 (-1)).toNat : Int) = _
  have e : BitVec.ofInt 64 (-1) = BitVec.allOnes 64 := by decide
  rw [e, BitVec.xor_allOnes, BitVec.toNat_not, ofInt_i64 X (by omega), IntKind.wrap_i64]
  omega
theorem xor_i64_zero (x : Int) (h0 : 0 ≤ x) (h1 : x ≤ 9223372036854775807) : bits .xor .i64 x 0 = x := by
  obtain ⟨X, rfl⟩ := Int.eq_ofNat_of_zero_le h0
  show IntKind.i64.wrap ((BitVec.ofInt 64 (X : Int) ^^^ BitVec.ofInt 64 0).toNat : Int) = _
  have e : BitVec.ofInt 64 0 = 0#64 := by decide
  rw [e, BitVec.xor_zero, ofInt_i64 X (by omega), IntKind.wrap_i64]
  omega
theorem zag_bits (v : Int) (h0 : 0 ≤ v) (h1 : v ≤ 18446744073709551615) :
    bits .xor .i64 (v / 2) (wrap64 (-wrap64 (bits .and .u64 v 1))) = if v % 2 = 1 then -(v / 2) - 1 else v / 2 := by
  rw [and_one_u64 v h0 h1]
  by_cases h : v % 2 = 1
  · have e : wrap64 (-wrap64 (v % 2)) = -1 := by rw [h]; unfold wrap64; omega
    rw [if_pos h, e, xor_i64_ones _ (by omega) (by omega)]
  · have e0 : v % 2 = 0 := by omega
    have e : wrap64 (-wrap64 (v % 2)) = 0 := by rw [e0]; unfold wrap64; omega
    rw [if_neg h, e, xor_i64_zero _ (by omega) (by omega)]
theorem wrap_bits (v k : Int) (h0 : 0 ≤ v) (h1 : v ≤ 18446744073709551615) (hk1 : 1 ≤ k) (hk2 : k ≤ 64) :
    wrap64 (IntKind.u64.wrap (v * 2 ^ (64 - k).toNat)) / 2 ^ (64 - k).toNat = if v % 2 ^ k.toNat < 2 ^ (k.toNat - 1) then v % 2 ^ k.toNat else v % 2 ^ k.toNat - 2 ^ k.toNat := by
  obtain ⟨K, rfl⟩ := Int.eq_ofNat_of_zero_le (show 0 ≤ k by omega)
  obtain ⟨q, rfl⟩ : ∃ q, K = q + 1 := ⟨K - 1, by omega⟩
  have e1 : (64 - ((q + 1 : Nat) : Int)).toNat = 63 - q := by omega
  have e2 : ((q + 1 : Nat) : Int).toNat = q + 1 := by omega
  rw [e1, e2, Nat.add_sub_cancel, IntKind.wrap_u64]
  have hs : (2 : Int) ^ (63 - q) * 2 ^ (q + 1) = 18446744073709551616 := by
    rw [← Int.pow_add, show 63 - q + (q + 1) = 64 by omega]; decide
  have hs2 : (2 : Int) ^ (63 - q) * 2 ^ q = 9223372036854775808 := by
    rw [← Int.pow_add, show 63 - q + q = 63 by omega]; decide
  have hpos : (0 : Int) < 2 ^ (63 - q) := Int.pow_pos (by omega)
  have hpq : (0 : Int) < 2 ^ (q + 1) := Int.pow_pos (by omega)
  generalize (2 : Int) ^ (63 - q) = S at *
  have hm : v * S % 18446744073709551616 = S * (v % 2 ^ (q + 1)) := by rw [← hs, Int.mul_comm v S, Int.mul_emod_mul_of_pos _ _ hpos]
  rw [hm]
  have hm0 : 0 ≤ v % 2 ^ (q + 1) := Int.emod_nonneg _ (by omega)
  have hm1 : v % 2 ^ (q + 1) < 2 ^ (q + 1) := Int.emod_lt_of_pos _ hpq
  generalize v % 2 ^ (q + 1) = M at *
  have hb0 : 0 ≤ S * M := Int.mul_nonneg (by omega) hm0
  have hb1 : S * M < 18446744073709551616 := by rw [← hs]; exact Int.mul_lt_mul_of_pos_left hm1 hpos
  by_cases hlt : M < 2 ^ q
  · have : S * M < 9223372036854775808 := by rw [← hs2]; exact Int.mul_lt_mul_of_pos_left hlt hpos
    rw [if_pos hlt, show wrap64 (S * M) = S * M from by unfold wrap64; omega, Int.mul_ediv_cancel_left _ (by omega)]
  · have : 9223372036854775808 ≤ S * M := by rw [← hs2]; exact Int.mul_le_mul_of_nonneg_left (by omega) (by omega)
    rw [if_neg hlt, show wrap64 (S * M) = S * M - 18446744073709551616 from by unfold wrap64; omega, ← hs, ← Int.mul_sub, Int.mul_ediv_cancel_left _ (by omega)]

/-! ### Counts and bits -/
theorem countB_big (q : Nat) (h : 128 ≤ q) : countB q = UInt8.ofNat (q % 128 + 128) :: countB (q / 128) := by rw [countB, if_neg (by omega)]
theorem countB_small (q : Nat) (h : q < 128) : countB q = [UInt8.ofNat q] := by rw [countB, if_pos h]
theorem countB_length (k : Nat) : ∀ v, v < 128 ^ (k + 1) → (countB v).length ≤ k + 1 := by
  induction k with
  | zero => intro v h; rw [countB_small v (by omega)]; simp
  | succ k ih =>
    intro v h
    by_cases hv : v < 128
    · rw [countB_small v hv]; simp
    · rw [countB_big v (by omega), List.length_cons]
      have := ih (v / 128) (by rw [Nat.pow_succ] at h; omega)
      omega
theorem count_len (q v len : Nat) (h : q * 128 ^ len ≤ v) (hv : v ≤ 18446744073709551615) (hq : 127 < q) : len ≤ 8 := by
  rcases Nat.lt_or_ge len 9 with h9 | h9
  · omega
  · have h1 : (128 : Nat) ^ 9 ≤ 128 ^ len := Nat.pow_le_pow_right (by omega) h9
    have h2 : 128 * 128 ^ 9 ≤ q * 128 ^ len := Nat.mul_le_mul (by omega) h1
    have h3 : 128 * (128 : Nat) ^ 9 = 1180591620717411303424 := by decide
    omega
theorem count_next (q v len : Nat) (h : q * 128 ^ len ≤ v) : q / 128 * 128 ^ (len + 1) ≤ v := by
  refine Nat.le_trans ?_ h
  rw [Nat.pow_succ, Nat.mul_comm (128 ^ len) 128, ← Nat.mul_assoc]
  exact Nat.mul_le_mul_right _ (Nat.div_mul_le_self q 128)
theorem count_byte (q : Int) (h0 : 0 ≤ q) : Value.int .u8 (bits .or .u8 (q % 256) 128) = b8 (UInt8.ofNat (q.toNat % 128 + 128)) := by
  rw [u8_or128 _ (by omega) (by omega), b8_ofNat]
  congr 1
  omega
theorem small_byte (q : Int) (h0 : 0 ≤ q) (h1 : q ≤ 127) : Value.int .u8 q = b8 (UInt8.ofNat q.toNat) := by
  rw [b8_ofNat]
  congr 1
  omega

/-- x with bit j so. -/
def setBitB (x : UInt8) (j : Nat) (on : Bool) : UInt8 :=
  UInt8.ofNat (if x.toNat / 2 ^ j % 2 = (if on then 1 else 0) then x.toNat else if on then x.toNat + 2 ^ j else x.toNat - 2 ^ j)
theorem pow2_mod : ∀ j : Fin 8, (2 : Int) ^ j.1 % 256 = ((2 ^ j.1 : Nat) : Int) ∧ 2 ^ j.1 < 256 := by decide
theorem nat_off : ∀ x : Fin 256, ∀ j : Fin 8, x.1 &&& (255 - 2 ^ j.1) = (if x.1 / 2 ^ j.1 % 2 = 0 then x.1 else x.1 - 2 ^ j.1) % 256 := by decide +kernel
theorem nat_on : ∀ x : Fin 256, ∀ j : Fin 8, (x.1 &&& (255 - 2 ^ j.1)) ||| 2 ^ j.1 = (if x.1 / 2 ^ j.1 % 2 = 1 then x.1 else x.1 + 2 ^ j.1) % 256 := by decide +kernel
theorem bits_off (x : UInt8) (j : Nat) (hj : j < 8) : bits .andNot .u8 (x.toNat : Int) ((2 : Int) ^ j % 256) = ((setBitB x j false).toNat : Int) := by
  obtain ⟨h1, h2⟩ := pow2_mod ⟨j, hj⟩
  dsimp only at h1 h2
  have h3 := nat_off ⟨x.toNat, x.toNat_lt⟩ ⟨j, hj⟩
  dsimp only at h3
  rw [h1, u8_andNot_nat _ _ x.toNat_lt h2, h3, setBitB]
  simp
theorem bits_on (x : UInt8) (j : Nat) (hj : j < 8) : bits .or .u8 (bits .andNot .u8 (x.toNat : Int) ((2 : Int) ^ j % 256)) ((2 : Int) ^ j % 256) = ((setBitB x j true).toNat : Int) := by
  obtain ⟨h1, h2⟩ := pow2_mod ⟨j, hj⟩
  dsimp only at h1 h2
  have h3 := nat_on ⟨x.toNat, x.toNat_lt⟩ ⟨j, hj⟩
  dsimp only at h3
  have h4 : x.toNat &&& (255 - 2 ^ j) < 256 := Nat.lt_of_le_of_lt Nat.and_le_left x.toNat_lt
  rw [h1, u8_andNot_nat _ _ x.toNat_lt h2, u8_or_nat _ _ h4 h2, h3, setBitB]
  simp

theorem takeC_bounds (l : List UInt8) : ∀ (i v : Nat), v < 128 ^ i → i ≤ 9 →
    (takeC l i v).1 ≤ 18446744073709551615 ∧ (takeC l i v).2.1 ≤ i + l.length ∧ ((takeC l i v).2.2 ≠ 0 → (takeC l i v).1 = 0 ∧ (takeC l i v).2.1 = 0) ∧ ((takeC l i v).2.2 = 0 → i < (takeC l i v).2.1) ∧ 0 ≤ (takeC l i v).2.2 ∧ (takeC l i v).2.2 ≤ 4 := by
  induction l with
  | nil => intro i v _ _; simp [takeC]
  | cons x r ih =>
    intro i v hv hi
    rw [takeC]
    by_cases hbad : (i = 9 ∧ 1 < x.toNat) ∨ (x.toNat = 0 ∧ 0 < i)
    · rw [if_pos hbad]; simp
    · rw [if_neg hbad]
      have hx := x.toNat_lt
      by_cases h128 : x.toNat < 128
      · rw [if_pos h128]
        have h19 : (128 : Nat) ^ 9 = 9223372036854775808 := by decide
        have hle : v + x.toNat * 128 ^ i ≤ 18446744073709551615 := by
          by_cases h9 : i = 9
          · subst h9
            rw [h19] at hv ⊢
            omega
          · have h1 : (128 : Nat) ^ i ≤ 128 ^ 8 := Nat.pow_le_pow_right (by omega) (by omega)
            have h2 : x.toNat * 128 ^ i ≤ 127 * 128 ^ 8 := Nat.mul_le_mul (by omega) h1
            have h3 : (128 : Nat) ^ 8 = 72057594037927936 := by decide
            omega
        refine ⟨hle, by simp, by simp, by simp, by simp, by simp⟩
      · rw [if_neg h128]
        have h1 : (x.toNat - 128) * 128 ^ i ≤ 127 * 128 ^ i := Nat.mul_le_mul_right _ (by omega)
        have h2 := ih (i + 1) (v + (x.toNat - 128) * 128 ^ i) (by rw [Nat.pow_succ]; omega) (by omega)
        obtain ⟨a, b, c, d, e, f⟩ := h2
        exact ⟨a, by rw [List.length_cons]; omega, c, fun h => by have := d h; omega, e, f⟩

/-- What TakeCount(b) hands back. -/
def tcR (l : List UInt8) : Nat × Nat × Int := takeC l 0 0

end Go.Proofs.YteldghiejmpknaaDoor
