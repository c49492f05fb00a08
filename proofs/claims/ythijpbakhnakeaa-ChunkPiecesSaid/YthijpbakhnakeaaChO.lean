/-
  The laws ChunkChunked and ChunkSized.
-/
import Derived.Test.YthijpbakhnakeaaChN
namespace Go.Proofs.Ythijpbakhnakeaa
open Go.RowKit

theorem light_no {w : World} {A : Option Addr} {n c : Nat} {ll : List Row} (h : Rows2 w A n c ll) (hn : ¬ (n ≤ 60 ∧ sumP 8192 0 ll ≤ 8192)) :
    Calls Try.prog 8 #[.slice A n c] w fun e w' => e = .returned (.bool false) ∧ w = w' := by
  have hS := Lib.hid (Sum_any h 8192 (by omega))
  by_cases h60 : (n : Int) ≤ 60
  · obtain ⟨S, hS1⟩ : ∃ S, sumP 8192 0 ll = S := ⟨_, rfl⟩
    rw [hS1] at hS hn
    have hs : decide ((S : Int) ≤ 8192) = false := by
      simp
      omega
    clear hn hS1
    go_enter Try.func8, Try.ntmps8
    go_wp2_with (go_at_call 17; refine hS.out.mono ?_; rintro e w1 ⟨rfl, rfl⟩)
    go_ret
    exact ⟨rfl, rfl⟩
  · have h60' : (60 : Int) < n := by omega
    clear hn h60
    go_enter Try.func8, Try.ntmps8
    go_wp2_with fail
    go_ret
    exact ⟨rfl, rfl⟩
theorem light_yes {w : World} {A : Option Addr} {n c : Nat} {ll : List Row} (h : Rows2 w A n c ll) (h1 : n ≤ 60) (h2 : sumP 8192 0 ll ≤ 8192) :
    Calls Try.prog 8 #[.slice A n c] w fun e w' => e = .returned (.bool true) ∧ w = w' := by
  have hS := Lib.hid (Sum_any h 8192 (by omega))
  obtain ⟨S, hS1⟩ : ∃ S, sumP 8192 0 ll = S := ⟨_, rfl⟩
  rw [hS1] at hS h2
  have hs : ((S : Nat) : Int) ≤ 8192 := by omega
  have h60 : (n : Int) ≤ 60 := by omega
  clear hS1 h1 h2
  go_enter Try.func8, Try.ntmps8
  go_wp2_with (go_at_call 17; refine hS.out.mono ?_; rintro e w1 ⟨rfl, rfl⟩)
  go_ret
  exact ⟨rfl, rfl⟩

theorem Body.lower {w : World} {b b' g n c : Nat} {A : Option Addr} {s : St} (h : Body w b g A n c s) (hb : b' ≤ b) : Body w b' g A n c s :=
  ⟨Nat.le_trans hb h.ge, h.obj, h.row.lower hb, h.ne⟩

theorem Sized_neg (n : Int) (w : World) (h : n < 0) : Calls Try.prog 16 #[.int .i64 n] w fun e w' => e = .returned (.tuple #[.pointer none, .int .i64 1]) ∧ w = w' := by
  go_enter Try.func16, Try.ntmps16
  go_wp2_with fail
  go_ret2
  exact ⟨rfl, rfl⟩
theorem Sized_long (n : Int) (w : World) (h : 4096 < n) : Calls Try.prog 16 #[.int .i64 n] w fun e w' => e = .returned (.tuple #[.pointer none, .int .i64 2]) ∧ w = w' := by
  have h0 : 0 ≤ n := by omega
  go_enter Try.func16, Try.ntmps16
  go_wp2_with fail
  go_ret2
  exact ⟨rfl, rfl⟩
theorem Sized_any (k : Nat) (w : World) (h : k ≤ 4096) : Calls Try.prog 16 #[.int .i64 (k : Int)] w fun e w' => e = .returned (.tuple #[.pointer (some ⟨w.heap.size, 0, none⟩), .int .i64 0]) ∧ Body w' w.heap.size w.heap.size none 0 0 (stN k) ∧ Below w.heap.size w w' := by
  have h1 : (k : Int) ≤ 4096 := by omega
  by_cases h0 : k = 0
  · subst h0
    have hn := Body.new w 9 0 0 0 w.heap.size (Nat.le_refl _)
    go_enter Try.func16, Try.ntmps16
    go_wp2_with fail
    go_ret2
    exact ⟨rfl, hn, (Below.refl _ _).alloc (Nat.le_refl _) _⟩
  · have hn := Body.new w 1 k 0 0 w.heap.size (Nat.le_refl _)
    have hs : stN k = ⟨1, k, 0, 0, []⟩ := if_neg h0
    have h0' : ((k : Int) == 0) = false := by simpa using h0
    rw [hs]
    clear hs h0
    go_enter Try.func16, Try.ntmps16
    go_wp2_with fail
    go_ret2
    exact ⟨rfl, hn, (Below.refl _ _).alloc (Nat.le_refl _) _⟩

theorem chunkChunked_walk {w : World} (A : Option Addr) (n c : Nat) (ll : List Row) (h : Rows2 w A n c ll) :
    Calls Try.prog 3 #[.slice A n c] w fun e w' => e = .returned (.bool true) ∧ Below w.heap.size w w' := by
  by_cases hl : n ≤ 60 ∧ sumP 8192 0 ll ≤ 8192
  · have H1 := Lib.hid hl.1
    have H2 := Lib.hid hl.2
    have HT := Lib.hid (by simpa using tot_le ll 0 hl.2 : tot ll ≤ 8192)
    clear hl
    go_enter Try.func3, Try.ntmps3
    go_wp2_with (first
      | (go_at_call 7; refine (begun_any _).mono ?_; rintro e w1 ⟨rfl, hbl1⟩)
      | (go_at_call 8; refine (light_yes (h.keep hbl1) H1.out H2.out).mono ?_; rintro e w2 ⟨rfl, rfl⟩)
      | (go_at_call 9; refine (Chunked_any _).mono ?_; rintro e w3 ⟨rfl, hb3, hbl3⟩)
      | (go_at_call 10; refine (Done_any hb3).mono ?_; rintro e w4 ⟨rfl, rfl⟩)
      | (go_at_call 11; refine (Data_any hb3 (by decide)).mono ?_; rintro e w5 ⟨A5, n5, c5, rfl, ho5, hbl5⟩; obtain rfl : 0 = n5 := ho5.lenb)
      | (go_at_call 12; refine (feeds_any (W := w) (s0 := st0) (sz := 0) (hbl1.trans ((hbl3.trans (hbl5.mono hbl3.size)).mono hbl1.size)) ((hb3.below hbl5).lower hbl1.size) ok0 rfl h HT.out true (by omega) (.inl ⟨rfl, rfl⟩)).mono ?_; rintro e w6 ⟨rfl, hbl6⟩))
    go_ret
    exact ⟨rfl, hbl6⟩
  · have HL := Lib.hid hl
    clear hl
    go_enter Try.func3, Try.ntmps3
    go_wp2_with (first
      | (go_at_call 7; refine (begun_any _).mono ?_; rintro e w1 ⟨rfl, hbl1⟩)
      | (go_at_call 8; refine (light_no (h.keep hbl1) HL.out).mono ?_; rintro e w2 ⟨rfl, rfl⟩))
    go_ret
    exact ⟨rfl, hbl1⟩

theorem stN_done (k : Nat) : ((stN k).nx == 9) = ((k : Int) == 0) := by
  unfold stN
  by_cases h : k = 0
  · subst h
    rfl
  · rw [if_neg h]
    have : ((k : Int) == 0) = false := by simpa using h
    rw [this]
    rfl
theorem stN_got (k : Nat) : (stN k).bd = 0 := by
  unfold stN
  split <;> rfl

theorem chunkSized_walk {w : World} (v : Int) (hv0 : -9223372036854775808 ≤ v) (hv1 : v ≤ 9223372036854775807) (A : Option Addr) (n c : Nat) (ll : List Row) (h : Rows2 w A n c ll) :
    Calls Try.prog 6 #[.int .i64 v, .slice A n c] w fun e w' => e = .returned (.bool true) ∧ Below w.heap.size w w' := by
  by_cases hl : n ≤ 60 ∧ sumP 8192 0 ll ≤ 8192
  · have H1 := Lib.hid hl.1
    have H2 := Lib.hid hl.2
    have HT := Lib.hid (by simpa using tot_le ll 0 hl.2 : tot ll ≤ 8192)
    clear hl
    by_cases hv : 0 ≤ v
    · by_cases hm : v ≤ 4096
      · obtain ⟨k, rfl⟩ := Int.eq_ofNat_of_zero_le hv
        have hk : k ≤ 4096 := by omega
        have hd := Lib.hid (stN_done k)
        have hg := Lib.hid (stN_got k)
        clear hv0 hv1
        go_enter Try.func6, Try.ntmps6
        go_wp2_with (first
          | (go_at_call 7; refine (begun_any _).mono ?_; rintro e w1 ⟨rfl, hbl1⟩)
          | (go_at_call 8; refine (light_yes (h.keep hbl1) H1.out H2.out).mono ?_; rintro e w2 ⟨rfl, rfl⟩)
          | (go_at_call 16; refine (Sized_any k _ hk).mono ?_; rintro e w3 ⟨rfl, hb3, hbl3⟩)
          | (go_at_call 10; refine (Done_any hb3).mono ?_; rintro e w4 ⟨rfl, rfl⟩; rw [hd.out])
          | (go_at_call 12; refine (feeds_any (W := w) (s0 := stN k) (sz := k) (hbl1.trans (hbl3.mono hbl1.size)) (hb3.lower hbl1.size) (okN k hk) hg.out h HT.out false hk (.inr ⟨rfl, rfl⟩)).mono ?_; rintro e w6 ⟨rfl, hbl6⟩))
        go_ret
        exact ⟨rfl, hbl6⟩
      · have hm' : 4096 < v := by omega
        clear hm
        go_enter Try.func6, Try.ntmps6
        go_wp2_with (first
          | (go_at_call 7; refine (begun_any _).mono ?_; rintro e w1 ⟨rfl, hbl1⟩)
          | (go_at_call 8; refine (light_yes (h.keep hbl1) H1.out H2.out).mono ?_; rintro e w2 ⟨rfl, rfl⟩)
          | (go_at_call 16; refine (Sized_long v _ hm').mono ?_; rintro e w3 ⟨rfl, rfl⟩))
        go_ret
        exact ⟨rfl, hbl1⟩
    · have hv' : v < 0 := by omega
      clear hv
      go_enter Try.func6, Try.ntmps6
      go_wp2_with (first
        | (go_at_call 7; refine (begun_any _).mono ?_; rintro e w1 ⟨rfl, hbl1⟩)
        | (go_at_call 8; refine (light_yes (h.keep hbl1) H1.out H2.out).mono ?_; rintro e w2 ⟨rfl, rfl⟩)
        | (go_at_call 16; refine (Sized_neg v _ hv').mono ?_; rintro e w3 ⟨rfl, rfl⟩))
      go_ret
      exact ⟨rfl, hbl1⟩
  · have HL := Lib.hid hl
    clear hl
    go_enter Try.func6, Try.ntmps6
    go_wp2_with (first
      | (go_at_call 7; refine (begun_any _).mono ?_; rintro e w1 ⟨rfl, hbl1⟩)
      | (go_at_call 8; refine (light_no (h.keep hbl1) HL.out).mono ?_; rintro e w2 ⟨rfl, rfl⟩))
    go_ret
    exact ⟨rfl, hbl1⟩

end Go.Proofs.Ythijpbakhnakeaa
